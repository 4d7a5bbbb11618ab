/- Texts of the mirror and contracts, put together. -/
import Derived.Test.YtffdpnmioidloaaGreatDoorPX4
import Derived.Shelf.Small.Strs
namespace Go.Proofs.YtffdpnmioidloaaGreatDoor
open Go Go.Mir
attribute [local irreducible] Go.Mir.RT.sat Go.Mir.evFn Go.Mir.stepObl
theorem QL (n:Int) (lo:Int) (hi:Int) :(evFn (cf8 [] Tryz.f205) (fun _=>none) Tryz.f205 (bo Mc (n,lo,hi,()))).sat fun v' rows=>leV v' (zm (n,lo,hi,())).v∧rows =(zm (n,lo,hi,())).rows:=by
 refine cast (by kernel_rfl) (?_ :(bif decide (n≥lo) then decide (n≤hi) else false)=aX n lo hi∧([]:List RowD)=[])
 simp only [aX];grind
theorem OC:CtrOK Tryz.prog K8 205 (au K8 Mc zm):=by
 refine ba (C:=cf8 [] Tryz.f205) (bK (CtrsOK.nil) _) mixed (fn:=Tryz.f205) Tryz.func205 (by kernel_rfl) (by kernel_rfl) (by kernel_rfl) (Λ:=fun _ _=>none) ?_ ?_ ?_
 ·exact fun _ _ _ _ _ _ _ _ h=>by cases h
 ·rintro ⟨n,lo,hi,⟨⟩⟩
  exact of_decide_eq_true (by kernel_rfl)
 ·rintro ⟨n,lo,hi,⟨⟩⟩ hw hn
  exact QL n lo hi
theorem QD (x:Innings) (p:Int) :(evFn (cf8 [] Tryz.f393) (fun _=>none) Tryz.f393 (bo jT (x,p,()))).sat fun v' rows=>leV v' (za (x,p,())).v∧rows =(za (x,p,())).rows:=by
 refine cast (by kernel_rfl) (?_ :(bif decide (p≥(1:Int)) then decide (p≤(↑x.16.length:Int)) else false)=bG x p∧([]:List RowD)=[])
 simp only [bG];grind
theorem OB:CtrOK Tryz.prog K8 393 (au K8 jT za):=by
 refine ba (C:=cf8 [] Tryz.f393) (bK (CtrsOK.nil) _) mixed (fn:=Tryz.f393) Tryz.func393 (by kernel_rfl) (by kernel_rfl) (by kernel_rfl) (Λ:=fun _ _=>none) ?_ ?_ ?_
 ·exact fun _ _ _ _ _ _ _ _ h=>by cases h
 ·rintro ⟨x,p,⟨⟩⟩
  exact of_decide_eq_true (by kernel_rfl)
 ·rintro ⟨x,p,⟨⟩⟩ hw hn
  exact QD x p
theorem QC (x:Innings) (hs:ah x) :(evFn (cf8 [k45,k90,k91] Tryz.f373) (fun _=>none) Tryz.f373 (bo psI (x,()))).sat fun v' rows=>leV v' (gS (x,())).v∧rows =(gS (x,())).rows:=by
 refine cast (by kernel_rfl) (?_:x.11.length≤(1000000:Nat)∧x.13.length≤(1000000:Nat)∧x.14.length≤(1000000:Nat)∧x.16.length≤(1000000:Nat)∧x.21.length≤(1000000:Nat)∧(x.1=x.1∧x.2=x.2∧x.3=x.3∧x.4=x.4∧x.5=x.5∧x.6.1=x.6.1∧x.6.2=x.6.2∧x.6.3=x.6.3∧x.6.4=x.6.4∧x.6.5=x.6.5∧x.7=x.7∧x.8=x.8∧x.9=x.9∧x.10=x.10∧(nat_lit 0=nat_lit 0∧nat_lit 0=nat_lit 0)∧x.12=x.12∧(nat_lit 1=nat_lit 1∧nat_lit 1=nat_lit 1)∧(nat_lit 2=nat_lit 2∧nat_lit 2=nat_lit 2)∧x.15=x.15∧(nat_lit 3=nat_lit 3∧nat_lit 3=nat_lit 3)∧x.17=x.17∧x.18=x.18∧x.19=x.19∧x.20=x.20∧(nat_lit 4=nat_lit 4∧nat_lit 4=nat_lit 4)∧x.22.1=x.22.1∧x.22.2.1=x.22.2.1∧x.23=x.23∧True)∧ [RowD.mk (Ty.int IntKind.u8) x.11,RowD.mk (Ty.int IntKind.i64) x.13,RowD.mk (Ty.int IntKind.i64) x.14,RowD.mk (Ty.int IntKind.i64) x.16,RowD.mk Ty.bool x.21]=[RowD.mk (Ty.int IntKind.u8) x.11,RowD.mk (Ty.int IntKind.i64) x.13,RowD.mk (Ty.int IntKind.i64) x.14,RowD.mk (Ty.int IntKind.i64) x.16,RowD.mk Ty.bool x.21])
 obtain ⟨h1,h2,h3,h4,h5⟩:=hs
 simp [h1,h2,h3,h4,h5]
theorem OA:CtrOK Tryz.prog K8 373 (au K8 psI gS):=by
 refine ba (C:=cf8 [k45,k90,k91] Tryz.f373) (bK (.cons Lu (.cons Ly (.cons Lz .nil))) _) mixed (fn:=Tryz.f373) Tryz.func373 (by kernel_rfl) (by kernel_rfl) (by kernel_rfl) (Λ:=fun _ _=>none) ?_ ?_ ?_
 ·exact fun _ _ _ _ _ _ _ _ h=>by cases h
 ·rintro ⟨x,⟨⟩⟩
  exact of_decide_eq_true (by kernel_rfl)
 ·rintro ⟨x,⟨⟩⟩ hw hn
  exact QC x (hn _ (List.mem_singleton.2 rfl))
theorem QJ (r:Rules) :(evFn (cf8 [k97] Tryz.f160) (fun _=>none) Tryz.f160 (bo qT (r,()))).sat fun v' rows=>leV v' (zj (r,())).v∧rows =(zj (r,())).rows:=by
 refine cast (by kernel_rfl) (?_ :(bif aX r.2 (2:Int) (11:Int) then bif aX r.3 (1:Int) (2:Int) then bif aX r.4 (0:Int) (90:Int) then bif aX r.5 (4:Int) (8:Int) then bif aX r.6 (0:Int) (90:Int) then bif aX r.7 (1:Int) (5:Int) then bif aX r.8 (1:Int) (5:Int) then bif aX r.10 (0:Int) (200:Int) then bif aX r.11 (0:Int) (1000:Int) then bif aX r.12 (0:Int) (9:Int) then aX r.13 (0:Int) (11:Int) else false else false else false else false else false else false else false else false else false else false)=cr r∧([]:List RowD)=[])
 simp only [cr,Bool.cond_false_right,and_self]
theorem Rk:CtrOK Tryz.prog K8 160 (au K8 qT zj):=by
 refine ba (C:=cf8 [k97] Tryz.f160) (bK (.cons OC .nil) _) mixed (fn:=Tryz.f160) Tryz.func160 (by kernel_rfl) (by kernel_rfl) (by kernel_rfl) (Λ:=fun _ _=>none) ?_ ?_ ?_
 ·exact fun _ _ _ _ _ _ _ _ h=>by cases h
 ·rintro ⟨r,⟨⟩⟩
  exact of_decide_eq_true (by kernel_rfl)
 ·rintro ⟨r,⟨⟩⟩ hw hn
  exact QJ r
theorem Ee (r:Rules) (i n:Nat):dY r i (n+1)=if np r i != 0 then np r i else dY r (i+1) n:=rfl
theorem KQ {s:ByteArray} (h:wfD .str s):s.size≤aO:=by
 obtain ⟨S,w,cs,h⟩:=h
 cases h with|str h=>exact h
theorem O2 (r:Rules) (hx:r.Power.length≤aO) (i:Nat) (hi:EP r i) :(stepObl (J94 r) (EP r) (fun i=>r.Power.length - i) i (T94 r) (bs (cf8 [k97] Tryz.f161) (fun _=>none) (aG Tryz.f161 0) (J94 r i)) (L94 i)).1:=by
 refine cast (by kernel_rfl) (?_ :(decide ((↑i:Int) <(↑r.14.length:Int))=true→((0:Int)≤(↑i:Int)∧(↑i:Int) <(↑r.14.length:Int))∧((bif decide ((r.14.getD (↑i:Int).toNat (dflt (Ty.nm Nm.Phase))).1 <(1:Int)) then true else bif decide ((r.14.getD (↑i:Int).toNat (dflt (Ty.nm Nm.Phase))).1 >(r.14.getD (↑i:Int).toNat (dflt (Ty.nm Nm.Phase))).2) then true else bif decide ((r.14.getD (↑i:Int).toNat (dflt (Ty.nm Nm.Phase))).2>r.4) then true else !aX (r.14.getD (↑i:Int).toNat (dflt (Ty.nm Nm.Phase))).3 (0:Int) (11:Int))=true→(dY r (0:Nat) r.14.length !=(0:Int))=true∧((2:Int)=dY r (0:Nat) r.14.length∧True)∧True)∧((bif decide ((r.14.getD (↑i:Int).toNat (dflt (Ty.nm Nm.Phase))).1 <(1:Int)) then true else bif decide ((r.14.getD (↑i:Int).toNat (dflt (Ty.nm Nm.Phase))).1 >(r.14.getD (↑i:Int).toNat (dflt (Ty.nm Nm.Phase))).2) then true else bif decide ((r.14.getD (↑i:Int).toNat (dflt (Ty.nm Nm.Phase))).2>r.4) then true else !aX (r.14.getD (↑i:Int).toNat (dflt (Ty.nm Nm.Phase))).3 (0:Int) (11:Int))=false→((decide ((↑i:Int) >(0:Int))=true→((0:Int)≤IntKind.i64.wrap ((↑i:Int) - (1:Int))∧IntKind.i64.wrap ((↑i:Int) - (1:Int)) <(↑r.14.length:Int))∧True)∧(decide ((↑i:Int) >(0:Int))=false→True))∧(true=true→((bif decide ((↑i:Int) >(0:Int)) then decide ((r.14.getD (↑i:Int).toNat (dflt (Ty.nm Nm.Phase))).1≤(r.14.getD (IntKind.i64.wrap ((↑i:Int) - (1:Int))).toNat (dflt (Ty.nm Nm.Phase))).2) else false)=true→(dY r (0:Nat) r.14.length !=(0:Int))=true∧((8:Int)=dY r (0:Nat) r.14.length∧True)∧True)∧((bif decide ((↑i:Int) >(0:Int)) then decide ((r.14.getD (↑i:Int).toNat (dflt (Ty.nm Nm.Phase))).1≤(r.14.getD (IntKind.i64.wrap ((↑i:Int) - (1:Int))).toNat (dflt (Ty.nm Nm.Phase))).2) else false)=false→EP r (i +(1:Nat))∧r.14.length - (i +(1:Nat))<r.14.length - i∧(True∧RowD.mk (Ty.nm Nm.Phase) r.14=RowD.mk (Ty.nm Nm.Phase) r.14∧(↑r.14.length:Int) =(↑r.14.length:Int)∧IntKind.i64.wrap ((↑i:Int) +(1:Int)) =(↑(i +(1:Nat)):Int)∧True)∧(r.1=r.1∧r.2=r.2∧r.3=r.3∧r.4=r.4∧r.5=r.5∧r.6=r.6∧r.7=r.7∧r.8=r.8∧r.9=r.9∧r.10=r.10∧r.11=r.11∧r.12=r.12∧r.13=r.13∧RowD.mk (Ty.nm Nm.Phase) r.14=RowD.mk (Ty.nm Nm.Phase) r.14∧True)∧True))))∧(decide ((↑i:Int) <(↑r.14.length:Int))=false→(dY r (0:Nat) r.14.length !=(0:Int))=false∧True∧True))
 have e :(i:Int).toNat=i:=by simp
 rw [e]
 have hb:r.Power.length≤140737488355328:=hx
 have hp:r.Power.getD i (dflt (Ty.nm Nm.Phase))=c8 r i:=rfl
 rw [hp]
 have hpb :(bif decide ((c8 r i).From<1) then true else bif decide ((c8 r i).From >(c8 r i).To) then true else bif decide ((c8 r i).To>r.Overs) then true else !aX (c8 r i).Outside 0 11)=tz r (c8 r i):=by
  simp only [tz,Bool.cond_true_left]
 rw [hpb]
 obtain ⟨hi1,hi2⟩:=hi
 refine ⟨fun h1=>?_,fun h1=>?_⟩
 ·have h1:i<r.Power.length:=by simpa using h1
  have hn:r.Power.length - i =(r.Power.length - (i+1))+1:=by omega
  rw [hn,Ee] at hi2
  have hw1:0<i→IntKind.i64.wrap ((i:Int) - 1) =((i - 1:Nat):Int):=fun h=>by rw [dI (by omega) (by omega)];omega
  refine ⟨⟨by omega,by omega⟩,fun h2=>?_,fun h2=>⟨⟨fun h3=>?_,fun _=>trivial⟩,fun _=>⟨fun h3=>?_,fun h3=>?_⟩⟩⟩
  ·have hE:np r i=2:=by simp only [np,h2];rfl
   rw [hE] at hi2
   have hi2:dY r 0 r.Power.length=2:=hi2
   rw [hi2]
   exact ⟨rfl,⟨rfl,trivial⟩,trivial⟩
  ·have h3:0<i:=by simpa using h3
   rw [hw1 h3]
   exact ⟨⟨by omega,by omega⟩,trivial⟩
  ·have h4:0<i:=by
    by_cases h4:0<i
    ·exact h4
    ·have:i=0:=by omega
     subst this
     simp at h3
   rw [hw1 h4,Int.toNat_natCast] at h3
   have hq:r.Power.getD (i - 1) (dflt (Ty.nm Nm.Phase))=c8 r (i - 1):=rfl
   rw [hq] at h3
   have h5 :(decide ((i:Int)>0)&&decide ((c8 r i).From≤(c8 r (i - 1)).To))=true:=by rw [←h3];cases decide ((i:Int)>0) <;> rfl
   have hE:np r i=8:=by simp only [np,h2,h5];rfl
   rw [hE] at hi2
   have hi2:dY r 0 r.Power.length=8:=hi2
   rw [hi2]
   exact ⟨rfl,⟨rfl,trivial⟩,trivial⟩
  ·have h5 :(decide ((i:Int)>0)&&decide ((c8 r i).From≤(c8 r (i - 1)).To))=false:=by
    by_cases h4:0<i
    ·rw [hw1 h4,Int.toNat_natCast] at h3
     have hq:r.Power.getD (i - 1) (dflt (Ty.nm Nm.Phase))=c8 r (i - 1):=rfl
     rw [hq] at h3
     rw [←h3];cases decide ((i:Int)>0) <;> rfl
    ·have:i=0:=by omega
     subst this;rfl
   have hE:np r i=0:=by simp only [np,h2,h5];rfl
   rw [hE] at hi2
   have hi2:dY r 0 r.Power.length=dY r (i+1) (r.Power.length - (i+1)):=hi2
   exact ⟨⟨by omega,hi2⟩,by omega,⟨trivial,rfl,rfl,by rw [dI (by omega) (by omega)];omega,trivial⟩,by simp⟩
 ·have h1:r.Power.length≤i:=by simpa using h1
  have h2:r.Power.length - i=0:=by omega
  rw [h2] at hi2
  have hi2:dY r 0 r.Power.length=0:=hi2
  rw [hi2]
  exact ⟨rfl,trivial,trivial⟩
theorem Oh (r:Rules) (hx:r.Power.length≤aO):LoopOK Tryz.prog Tryz.f161.ntmps (aG Tryz.f161 0) (c7 ⟨[],[],8⟩ (J94 r 0) (T94 r)):=
 kA (bK (.cons OC .nil) _) mixed (J94 r) (fun _=>rfl) (EP r) (fun i=>r.Power.length - i) (fun _ _=>none) (fun _ _ _ _ _ h=>by cases h) (T94 r) [] [] 0 (⟨Nat.zero_le _,rfl⟩) L94 (fun i hi=>O2 r hx i hi)
theorem QK (r:Rules) (hx:r.Power.length≤aO) :(evFn (cf8 [k97] Tryz.f161) (Λ94 r) Tryz.f161 (bo qT (r,()))).sat fun v' rows=>leV v' (zk (r,())).v∧rows =(zk (r,())).rows:=by
 refine cast (by kernel_rfl) (?_ :(decide ((↑r.14.length:Int) >(8:Int))=true→(9:Int)=gx r∧([]:List RowD)=[])∧(decide ((↑r.14.length:Int) >(8:Int))=false→((fi fun x=>none)∧(True∧RowD.mk (Ty.nm Nm.Phase) r.14=RowD.mk (Ty.nm Nm.Phase) r.14∧(↑r.14.length:Int) =(↑r.14.length:Int)∧(0:Int) =(↑(0:Nat):Int)∧True)∧(r.1=r.1∧r.2=r.2∧r.3=r.3∧r.4=r.4∧r.5=r.5∧r.6=r.6∧r.7=r.7∧r.8=r.8∧r.9=r.9∧r.10=r.10∧r.11=r.11∧r.12=r.12∧r.13=r.13∧RowD.mk (Ty.nm Nm.Phase) r.14=RowD.mk (Ty.nm Nm.Phase) r.14∧True)∧True)∧((dY r (0:Nat) r.14.length !=(0:Int))=true→dY r (0:Nat) r.14.length=gx r∧([]:List RowD)=[])∧((dY r (0:Nat) r.14.length !=(0:Int))=false→(0:Int)=gx r∧([]:List RowD)=[])))
 refine ⟨fun h=>⟨?_,rfl⟩,fun h=>⟨⟨rfl,⟨trivial,rfl,rfl,rfl,trivial⟩,by simp⟩,fun h2=>⟨?_,rfl⟩,fun h2=>⟨?_,rfl⟩⟩⟩
 ·simp only [gx];rw [if_pos (of_decide_eq_true h)]
 ·simp only [gx];rw [if_neg (of_decide_eq_false h)]
 ·simp only [gx];rw [if_neg (of_decide_eq_false h)]
  have h2:dY r 0 r.Power.length=0:=by simpa using h2
  exact h2.symm
theorem Rm:CtrOK Tryz.prog K8 161 (au K8 qT zk):=by
 refine ba (C:=cf8 [k97] Tryz.f161) (bK (.cons OC .nil) _) mixed (fn:=Tryz.f161) Tryz.func161 (by kernel_rfl) (by kernel_rfl) (by kernel_rfl) (Λ:=fun x=>Λ94 x.1) ?_ ?_ ?_
 ·rintro ⟨r,⟨⟩⟩ hw hn
  exact LoopsOK.at (by kernel_rfl) (.cons (by kernel_rfl) (Oh r (pj (bg hw))) .nil)
 ·rintro ⟨r,⟨⟩⟩
  exact of_decide_eq_true (by kernel_rfl)
 ·rintro ⟨r,⟨⟩⟩ hw hn
  exact QK r (pj (bg hw))
end Go.Proofs.YtffdpnmioidloaaGreatDoor
namespace Go.Proofs.YtffdpnmioidloaaGreatDoor
open Go Go.Mir
attribute [local irreducible] Go.Mir.RT.sat Go.Mir.evFn Go.Mir.stepObl
theorem FU (s:ByteArray) :(aR s).length=s.size:=by
 have:s.data.size=s.size:=ByteArray.size_data
 simp [aR,this]
theorem HH (s:ByteArray) (i:Nat) (h:i<s.size) :(aR s).getD i (0:Int)=rN s i:=by
 have h1:i<s.data.size:=by rw [ByteArray.size_data];exact h
 simp [aR,rN,Array.getElem?_eq_getElem h1]
theorem O1 (s:ByteArray) (hx:s.size≤aO) (i:Nat) (hi:ER s i) :(stepObl (J92 s) (ER s) (fun i=>s.size - i) i (T92 s) (bs (cf8 [] Tryz.f159) (fun _=>none) (aG Tryz.f159 0) (J92 s i)) (L95 i)).1:=by
 refine cast (by kernel_rfl) (?_ :(decide ((↑i:Int) <(↑(aR s).length:Int))=true→((0:Int)≤(↑i:Int)∧(↑i:Int) <(↑(aR s).length:Int))∧((bif !bif decide ((aR s).getD (↑i:Int).toNat (dflt (Ty.int IntKind.u8))≥(65:Int)) then decide ((aR s).getD (↑i:Int).toNat (dflt (Ty.int IntKind.u8))≤(90:Int)) else false then bif (↑i:Int) ==(0:Int) then true else bif (aR s).getD (↑i:Int).toNat (dflt (Ty.int IntKind.u8)) !=(95:Int) then bif (aR s).getD (↑i:Int).toNat (dflt (Ty.int IntKind.u8)) !=(45:Int) then bif decide ((aR s).getD (↑i:Int).toNat (dflt (Ty.int IntKind.u8)) <(48:Int)) then true else decide ((aR s).getD (↑i:Int).toNat (dflt (Ty.int IntKind.u8)) >(57:Int)) else false else false else false)=true→kx s s.size=false∧(false=false∧True)∧True)∧((bif !bif decide ((aR s).getD (↑i:Int).toNat (dflt (Ty.int IntKind.u8))≥(65:Int)) then decide ((aR s).getD (↑i:Int).toNat (dflt (Ty.int IntKind.u8))≤(90:Int)) else false then bif (↑i:Int) ==(0:Int) then true else bif (aR s).getD (↑i:Int).toNat (dflt (Ty.int IntKind.u8)) !=(95:Int) then bif (aR s).getD (↑i:Int).toNat (dflt (Ty.int IntKind.u8)) !=(45:Int) then bif decide ((aR s).getD (↑i:Int).toNat (dflt (Ty.int IntKind.u8)) <(48:Int)) then true else decide ((aR s).getD (↑i:Int).toNat (dflt (Ty.int IntKind.u8)) >(57:Int)) else false else false else false)=false→ER s (i +(1:Nat))∧s.size - (i +(1:Nat))<s.size - i∧(s=s∧True∧(↑(aR s).length:Int) =(↑(aR s).length:Int)∧IntKind.i64.wrap ((↑i:Int) +(1:Int)) =(↑(i +(1:Nat)):Int)∧True)∧RowD.mk (Ty.int IntKind.u8) (aR s)=RowD.mk (Ty.int IntKind.u8) (aR s)∧True))∧(decide ((↑i:Int) <(↑(aR s).length:Int))=false→kx s s.size=true∧(s=s∧True)∧True))
 have e :(i:Int).toNat=i:=by simp
 rw [e]
 have hb:s.size≤140737488355328:=hx
 have hlen:=FU s
 obtain ⟨hi1,hi2⟩:=hi
 have hbad :∀ c:Int,(bif !(bif decide (c≥65) then decide (c≤90) else false) then bif (i:Int)==0 then true else bif c != 95 then bif c != 45 then bif decide (c<48) then true else decide (c>57) else false else false else false)=Ex i c:=fun c=>by
  simp only [Ex,Fc,Bool.cond_true_left,Bool.cond_false_right]
 rw [hbad]
 refine ⟨fun h1=>?_,fun h1=>⟨?_,⟨rfl,trivial⟩,trivial⟩⟩
 ·have h1:i <(aR s).length:=by simpa using h1
  have hat :(aR s).getD i (dflt (Ty.int IntKind.u8))=rN s i:=HH s i (by omega)
  rw [hat]
  refine ⟨⟨by omega,by omega⟩,fun h2=>⟨?_,⟨rfl,trivial⟩,trivial⟩,fun h2=>⟨⟨by omega,?_⟩,by omega,⟨rfl,trivial,rfl,by rw [dI (by omega) (by omega)];omega,trivial⟩,rfl,trivial⟩⟩
  ·unfold kx
   rw [List.all_eq_false]
   exact ⟨i,List.mem_range.2 (by omega),by rw [h2];decide⟩
  ·unfold kx at hi2 ⊢
   rw [List.range_succ,List.all_append,hi2]
   simp [h2]
 ·have h1 :(aR s).length≤i:=by simpa using h1
  have:i=s.size:=by omega
  rw [←this];exact hi2
theorem Og (s:ByteArray) (hx:s.size≤aO):LoopOK Tryz.prog Tryz.f159.ntmps (aG Tryz.f159 0) (c7 ⟨[],[],40⟩ (J92 s 0) (T92 s)):=
 kA (bK (CtrsOK.nil) _) mixed (J92 s) (fun _=>rfl) (ER s) (fun i=>s.size - i) (fun _ _=>none) (fun _ _ _ _ _ h=>by cases h) (T92 s) [] [] 0 (⟨Nat.zero_le _,rfl⟩) L95 (fun i hi=>O1 s hx i hi)
theorem QI (s:ByteArray) (hx:s.size≤aO) :(evFn (cf8 [] Tryz.f159) (Λ92 s) Tryz.f159 (bo Mh (s,()))).sat fun v' rows=>leV v' (zl (s,())).v∧rows =(zl (s,())).rows:=by
 refine cast (by kernel_rfl) (?_ :((fi fun x=>none)∧(s=s∧True∧(↑(aR s).length:Int) =(↑(aR s).length:Int)∧(0:Int) =(↑(0:Nat):Int)∧True)∧RowD.mk (Ty.int IntKind.u8) (aR s)=RowD.mk (Ty.int IntKind.u8) (aR s)∧True)∧(kx s s.size=true→(bif decide ((↑s.size:Int)≥(1:Int)) then decide ((↑s.size:Int)≤(16:Int)) else false)=lU s∧([]:List RowD)=[])∧(kx s s.size=false→false=lU s∧([]:List RowD)=[]))
 have hn:lU s =(kx s s.size&&(decide ((s.size:Int)≥1)&&decide ((s.size:Int)≤16))):=rfl
 refine ⟨⟨rfl,⟨rfl,trivial,rfl,rfl,trivial⟩,rfl,trivial⟩,fun h=>⟨?_,rfl⟩,fun h=>⟨?_,rfl⟩⟩
 ·rw [hn,h,Bool.true_and,Bool.cond_false_right]
 ·rw [hn,h,Bool.false_and]
theorem Rj:CtrOK Tryz.prog K8 159 (au K8 Mh zl):=by
 refine ba (C:=cf8 [] Tryz.f159) (bK (CtrsOK.nil) _) mixed (fn:=Tryz.f159) Tryz.func159 (by kernel_rfl) (by kernel_rfl) (by kernel_rfl) (Λ:=fun x=>Λ92 x.1) ?_ ?_ ?_
 ·rintro ⟨s,⟨⟩⟩ hw hn
  exact LoopsOK.at (by kernel_rfl) (.cons (by kernel_rfl) (Og s (KQ (bg hw))) .nil)
 ·rintro ⟨s,⟨⟩⟩
  exact of_decide_eq_true (by kernel_rfl)
 ·rintro ⟨s,⟨⟩⟩ hw hn
  exact QI s (KQ (bg hw))
end Go.Proofs.YtffdpnmioidloaaGreatDoor
namespace Go.Proofs.YtffdpnmioidloaaGreatDoor
open Go Go.Mir
attribute [local irreducible] Go.Mir.RT.sat Go.Mir.evFn Go.Mir.stepObl
theorem HA (r:Rules) :(bif bif r.FollowOn != 0 then r.Innings==1 else false then bif r.FollowOn != 0 then r.Innings==1 else false else bif r.Quota != 0 then r.Overs==0 else bif decide ((r.Power.length:Int)>0) then r.Overs==0 else false)=wW r:=by
 simp only [wW]
 generalize (r.FollowOn != 0)=a
 generalize (r.Innings==1)=b
 generalize (r.Quota != 0)=c
 generalize decide ((r.Power.length:Int)>0)=d
 generalize (r.Overs==0)=e
 cases a <;> cases b <;> cases c <;> cases d <;> cases e <;> rfl
theorem Ch (r:Rules) :(bif r.Quota != 0 then decide (IntKind.i64.wrap (r.Quota*r.Side)<r.Overs) else false)=xd r:=by
 simp only [xd,Bool.cond_false_right]
theorem QE (r:Rules) :(evFn (cf8 [k92,k93,k94] Tryz.f90) (fun _=>none) Tryz.f90 (bo qT (r,()))).sat fun v' rows=>leV v' (zb (r,())).v∧rows =(zb (r,())).rows:=by
 refine cast (by kernel_rfl) (?_ :((!lU r.1)=true→(5:Int)=aC r∧([]:List RowD)=[])∧((!lU r.1)=false→((!cr r)=true→(2:Int)=aC r∧([]:List RowD)=[])∧((!cr r)=false→((bif bif r.11 !=(0:Int) then r.3 ==(1:Int) else false then bif r.11 !=(0:Int) then r.3 ==(1:Int) else false else bif r.6 !=(0:Int) then r.4 ==(0:Int) else bif decide ((↑r.14.length:Int) >(0:Int)) then r.4 ==(0:Int) else false)=true→(1:Int)=aC r∧([]:List RowD)=[])∧((bif bif r.11 !=(0:Int) then r.3 ==(1:Int) else false then bif r.11 !=(0:Int) then r.3 ==(1:Int) else false else bif r.6 !=(0:Int) then r.4 ==(0:Int) else bif decide ((↑r.14.length:Int) >(0:Int)) then r.4 ==(0:Int) else false)=false→((bif r.6 !=(0:Int) then decide (IntKind.i64.wrap (r.6*r.2)<r.4) else false)=true→(13:Int)=aC r∧([]:List RowD)=[])∧((bif r.6 !=(0:Int) then decide (IntKind.i64.wrap (r.6*r.2)<r.4) else false)=false→gx r=aC r∧([]:List RowD)=[])))))
 rw [HA,Ch]
 simp only [aC]
 repeat' first|refine And.intro ?_ ?_|intro _
 all_goals first|rfl |(simp_all;done)|grind
theorem tc:CtrOK Tryz.prog K8 90 (au K8 qT zb):=by
 refine ba (C:=cf8 [k92,k93,k94] Tryz.f90) (bK (.cons Rj (.cons Rk (.cons Rm .nil))) _) mixed (fn:=Tryz.f90) Tryz.func90 (by kernel_rfl) (by kernel_rfl) (by kernel_rfl) (Λ:=fun _ _=>none) ?_ ?_ ?_
 ·exact fun _ _ _ _ _ _ _ _ h=>by cases h
 ·rintro ⟨r,⟨⟩⟩
  exact of_decide_eq_true (by kernel_rfl)
 ·rintro ⟨r,⟨⟩⟩ hw hn
  exact QE r
theorem xH {x:Innings} {p:Int} (hp:lM p) (h:bG x p=true):IntKind.i64.wrap (p - 1)=p - 1∧0≤p - 1∧p - 1 <(x.Bowled.length:Int):=by
 simp only [bG,Bool.and_eq_true,decide_eq_true_eq] at h
 have:=hp.2
 exact ⟨dI (by omega) (by omega),by omega,by omega⟩
theorem QA (r:Rules) (x:Innings) (p:Int) (hp:lM p) :(evFn (cf8 [k84,k85] Tryz.f394) (fun _=>none) Tryz.f394 (bo kZ (r,x,p,()))).sat fun v' rows=>leV v' (y8 (r,x,p,())).v∧rows =(y8 (r,x,p,())).rows:=by
 refine cast (by kernel_rfl) (?_ :((bif !bG x p then true else aC r !=(0:Int))=true→(0:Int)=jY r x p∧([]:List RowD)=[])∧((bif !bG x p then true else aC r !=(0:Int))=false→((r.6 ==(0:Int))=true→(-1:Int)=jY r x p∧([]:List RowD)=[])∧((r.6 ==(0:Int))=false→((0:Int)≤IntKind.i64.wrap (p - (1:Int))∧IntKind.i64.wrap (p - (1:Int)) <(↑x.16.length:Int))∧(if (0:Int)>IntKind.i64.wrap (IntKind.i64.wrap (r.6*r.5) - if (0:Int)>x.16.getD (IntKind.i64.wrap (p - (1:Int))).toNat (dflt (Ty.int IntKind.i64)) then (0:Int) else x.16.getD (IntKind.i64.wrap (p - (1:Int))).toNat (dflt (Ty.int IntKind.i64))) then (0:Int) else IntKind.i64.wrap (IntKind.i64.wrap (r.6*r.5) - if (0:Int)>x.16.getD (IntKind.i64.wrap (p - (1:Int))).toNat (dflt (Ty.int IntKind.i64)) then (0:Int) else x.16.getD (IntKind.i64.wrap (p - (1:Int))).toNat (dflt (Ty.int IntKind.i64))))=jY r x p∧([]:List RowD)=[])))
 have h0 :(bif !bG x p then true else aC r != 0) =(!bG x p||aC r != 0):=by cases bG x p <;> rfl
 rw [h0]
 refine ⟨fun h=>⟨?_,rfl⟩,fun h=>⟨fun h2=>⟨?_,rfl⟩,fun h2=>⟨?_,?_,rfl⟩⟩⟩
 ·simp only [jY,h,if_true]
 ·simp only [jY,h,h2,if_true];rfl
 ·have hk:bG x p=true:=by
   cases hk:bG x p with
   | true=>rfl
   | false=>rw [hk] at h;cases h
  obtain ⟨e,h3,h4⟩:=xH hp hk
  rw [e];exact ⟨h3,h4⟩
 ·have hk:bG x p=true:=by
   cases hk:bG x p with
   | true=>rfl
   | false=>rw [hk] at h;cases h
  obtain ⟨e,h3,h4⟩:=xH hp hk
  rw [e]
  simp only [jY,h,h2]
  rfl
theorem Rg:CtrOK Tryz.prog K8 394 (au K8 kZ y8):=by
 refine ba (C:=cf8 [k84,k85] Tryz.f394) (bK (.cons OB (.cons tc .nil)) _) mixed (fn:=Tryz.f394) Tryz.func394 (by kernel_rfl) (by kernel_rfl) (by kernel_rfl) (Λ:=fun _ _=>none) ?_ ?_ ?_
 ·exact fun _ _ _ _ _ _ _ _ h=>by cases h
 ·rintro ⟨r,x,p,⟨⟩⟩
  exact of_decide_eq_true (by kernel_rfl)
 ·rintro ⟨r,x,p,⟨⟩⟩ hw hn
  exact QA r x p (gU (bg (aH (aH hw))))
end Go.Proofs.YtffdpnmioidloaaGreatDoor
namespace Go.Proofs.YtffdpnmioidloaaGreatDoor
open Go Go.Mir
attribute [local irreducible] Go.Mir.RT.sat Go.Mir.evFn Go.Mir.stepObl
theorem QB (r:Rules) (x:Innings) (p:Int) (hp:lM p) :(evFn (cf8 [k47,k81,k84,k85] Tryz.f374) (fun _=>none) Tryz.f374 (bo kZ (r,x,p,()))).sat fun v' rows=>leV v' (y9 (r,x,p,())).v∧rows =(y9 (r,x,p,())).rows:=by
 refine cast (by kernel_rfl) (?_ :((bif !bG x p then true else aC r !=(0:Int))=true→(3:Int)=db r x p∧([]:List RowD)=[])∧((bif !bG x p then true else aC r !=(0:Int))=false→((decide (p≤(↑x.21.length:Int))=true→((0:Int)≤IntKind.i64.wrap (p - (1:Int))∧IntKind.i64.wrap (p - (1:Int)) <(↑x.21.length:Int))∧True)∧(decide (p≤(↑x.21.length:Int))=false→True))∧(true=true→((bif p==x.19 then true else bif p==x.12 then true else bif decide (p≤(↑x.21.length:Int)) then x.21.getD (IntKind.i64.wrap (p - (1:Int))).toNat (dflt Ty.bool) else false)=true→(7:Int)=db r x p∧([]:List RowD)=[])∧((bif p==x.19 then true else bif p==x.12 then true else bif decide (p≤(↑x.21.length:Int)) then x.21.getD (IntKind.i64.wrap (p - (1:Int))).toNat (dflt Ty.bool) else false)=false→(fK x.14 p=true→(8:Int)=db r x p∧([]:List RowD)=[])∧(fK x.14 p=false→((bif jY r x p !=(-1:Int) then decide (x.8<IntKind.i64.wrap (r.5 - jY r x p)) else false)=true→(9:Int)=db r x p∧([]:List RowD)=[])∧((bif jY r x p !=(-1:Int) then decide (x.8<IntKind.i64.wrap (r.5 - jY r x p)) else false)=false→(0:Int)=db r x p∧([]:List RowD)=[]))))))
 have h0 :(bif !bG x p then true else aC r != 0) =(!bG x p||aC r != 0):=by cases bG x p <;> rfl
 rw [h0]
 refine ⟨fun h=>⟨?_,rfl⟩,fun h=>?_⟩
 ·simp only [db,h,if_true]
 ·have hk:bG x p=true:=by
   cases hk:bG x p with
   | true=>rfl
   | false=>rw [hk] at h;cases h
  have hp1:p≥1:=by
   simp only [bG,Bool.and_eq_true,decide_eq_true_eq] at hk
   exact hk.1
  have hw:IntKind.i64.wrap (p - 1)=p - 1:=by have:=hp.2;exact dI (by omega) (by omega)
  rw [hw]
  have hrep :(bif decide (p≤(x.Subs.length:Int)) then x.Subs.getD (p - 1).toNat (dflt Ty.bool) else false)=aU x p:=by
   simp only [aU,bl,decide_eq_true hp1,Bool.true_and]
   cases decide (p≤(x.Subs.length:Int)) <;> rfl
  rw [hrep]
  have hq :(bif p==x.Keeper then true else bif p==x.Bowler then true else aU x p) =(p==x.Keeper ||(p==x.Bowler||aU x p)):=by simp only [Bool.cond_true_left]
  rw [hq,Bool.cond_false_right]
  refine ⟨⟨fun h1=>⟨?_,trivial⟩,fun _=>trivial⟩,fun _=>⟨fun h1=>⟨?_,rfl⟩,fun h1=>⟨fun h2=>⟨?_,rfl⟩,fun h2=>⟨fun h3=>⟨?_,rfl⟩,fun h3=>⟨?_,rfl⟩⟩⟩⟩⟩
  ·have h1:p≤(x.Subs.length:Int):=of_decide_eq_true h1
   exact ⟨by omega,by omega⟩
  ·simp only [db,h,h1];rfl
  ·simp only [db,h,h1,h2];rfl
  ·simp only [db,h,h1,h2,h3];rfl
  ·simp only [db,h,h1,h2,h3];rfl
theorem Rh:CtrOK Tryz.prog K8 374 (au K8 kZ y9):=by
 refine ba (C:=cf8 [k47,k81,k84,k85] Tryz.f374) (bK (.cons Lv (.cons Rg (.cons OB (.cons tc .nil)))) _) mixed (fn:=Tryz.f374) Tryz.func374 (by kernel_rfl) (by kernel_rfl) (by kernel_rfl) (Λ:=fun _ _=>none) ?_ ?_ ?_
 ·exact fun _ _ _ _ _ _ _ _ h=>by cases h
 ·rintro ⟨r,x,p,⟨⟩⟩
  exact of_decide_eq_true (by kernel_rfl)
 ·rintro ⟨r,x,p,⟨⟩⟩ hw hn
  exact QB r x p (gU (bg (aH (aH hw))))
theorem Ql (r:Rules) (x:Innings) (p:Int) (hs:ah x) :(evFn (cf8 [k82,k83] Tryz.f342) (fun _=>none) Tryz.f342 (bo kZ (r,x,p,()))).sat fun v' rows=>leV v' (yR (r,x,p,())).v∧rows =(yR (r,x,p,())).rows:=by
 refine cast (by kernel_rfl) (?_:ah x∧(((bif db r x p ==(0:Int) then x.1 else x.1) =(bQ r x p).1∧(bif db r x p ==(0:Int) then x.2 else x.2) =(bQ r x p).2∧(bif db r x p ==(0:Int) then x.3 else x.3) =(bQ r x p).3∧(bif db r x p ==(0:Int) then x.4 else x.4) =(bQ r x p).4∧(bif db r x p ==(0:Int) then x.5 else x.5) =(bQ r x p).5∧(bif db r x p ==(0:Int) then x.6.1 else x.6.1) =(bQ r x p).6.1∧(bif db r x p ==(0:Int) then x.6.2 else x.6.2) =(bQ r x p).6.2∧(bif db r x p ==(0:Int) then x.6.3 else x.6.3) =(bQ r x p).6.3∧(bif db r x p ==(0:Int) then x.6.4 else x.6.4) =(bQ r x p).6.4∧(bif db r x p ==(0:Int) then x.6.5 else x.6.5) =(bQ r x p).6.5∧(bif db r x p ==(0:Int) then x.7 else x.7) =(bQ r x p).7∧(bif db r x p ==(0:Int) then x.8 else x.8) =(bQ r x p).8∧(bif db r x p ==(0:Int) then x.9 else x.9) =(bQ r x p).9∧(bif db r x p ==(0:Int) then x.10 else x.10) =(bQ r x p).10∧(nat_lit 0=nat_lit 0∧nat_lit 0=nat_lit 0)∧(bif db r x p ==(0:Int) then p else x.12) =(bQ r x p).12∧(nat_lit 1=nat_lit 1∧nat_lit 1=nat_lit 1)∧(nat_lit 2=nat_lit 2∧nat_lit 2=nat_lit 2)∧(bif db r x p ==(0:Int) then x.15 else x.15) =(bQ r x p).15∧(nat_lit 3=nat_lit 3∧nat_lit 3=nat_lit 3)∧(bif db r x p ==(0:Int) then x.17 else x.17) =(bQ r x p).17∧(bif db r x p ==(0:Int) then x.18 else x.18) =(bQ r x p).18∧(bif db r x p ==(0:Int) then x.19 else x.19) =(bQ r x p).19∧(bif db r x p ==(0:Int) then x.20 else x.20) =(bQ r x p).20∧(nat_lit 4=nat_lit 4∧nat_lit 4=nat_lit 4)∧(bif db r x p ==(0:Int) then x.22.1 else x.22.1) =(bQ r x p).22.1∧(bif db r x p ==(0:Int) then x.22.2.1 else x.22.2.1) =(bQ r x p).22.2.1∧(bif db r x p ==(0:Int) then x.23 else x.23) =(bQ r x p).23∧True)∧db r x p=db r x p∧True)∧ [RowD.mk (Ty.int IntKind.u8) x.11,RowD.mk (Ty.int IntKind.i64) x.13,RowD.mk (Ty.int IntKind.i64) x.14,RowD.mk (Ty.int IntKind.i64) x.16,RowD.mk Ty.bool x.21]=[RowD.mk (Ty.int IntKind.u8) (bQ r x p).11,RowD.mk (Ty.int IntKind.i64) (bQ r x p).13,RowD.mk (Ty.int IntKind.i64) (bQ r x p).14,RowD.mk (Ty.int IntKind.i64) (bQ r x p).16,RowD.mk Ty.bool (bQ r x p).21])
 refine ⟨hs,?_⟩
 cases hm :(db r x p==0) with
 | false=>
  have e:bQ r x p=x:=by simp only [bQ,hm];rfl
  rw [e];simp
 | true=>
  have e:bQ r x p={ x with Bowler:=p }:=by simp only [bQ,hm];rfl
  rw [e];simp
theorem Q5:CtrOK Tryz.prog K8 342 (au K8 kZ yR):=by
 refine ba (C:=cf8 [k82,k83] Tryz.f342) (bK (.cons Rh (.cons OA .nil)) _) mixed (fn:=Tryz.f342) Tryz.func342 (by kernel_rfl) (by kernel_rfl) (by kernel_rfl) (Λ:=fun _ _=>none) ?_ ?_ ?_
 ·exact fun _ _ _ _ _ _ _ _ h=>by cases h
 ·rintro ⟨r,x,p,⟨⟩⟩
  exact of_decide_eq_true (by kernel_rfl)
 ·rintro ⟨r,x,p,⟨⟩⟩ hw hn
  exact Ql r x p (hn _ (List.mem_singleton.2 rfl))
theorem Qn (r:Rules) (x:Innings) (hs:ah x) :(evFn (cf8 [k83,k85] Tryz.f350) (fun _=>none) Tryz.f350 (bo Bj (r,x,()))).sat fun v' rows=>leV v' (yT (r,x,())).v∧rows =(yT (r,x,())).rows:=by
 refine cast (by kernel_rfl) (?_:ah x∧((bif aC r !=(0:Int) then true else bif r.10 ==(0:Int) then true else decide (x.18<IntKind.i64.wrap (r.10*r.5)))=true→((x.1 =(bu r x).1∧x.2 =(bu r x).2∧x.3 =(bu r x).3∧x.4 =(bu r x).4∧x.5 =(bu r x).5∧x.6.1 =(bu r x).6.1∧x.6.2 =(bu r x).6.2∧x.6.3 =(bu r x).6.3∧x.6.4 =(bu r x).6.4∧x.6.5 =(bu r x).6.5∧x.7 =(bu r x).7∧x.8 =(bu r x).8∧x.9 =(bu r x).9∧x.10 =(bu r x).10∧(nat_lit 0=nat_lit 0∧nat_lit 0=nat_lit 0)∧x.12 =(bu r x).12∧(nat_lit 1=nat_lit 1∧nat_lit 1=nat_lit 1)∧(nat_lit 2=nat_lit 2∧nat_lit 2=nat_lit 2)∧x.15 =(bu r x).15∧(nat_lit 3=nat_lit 3∧nat_lit 3=nat_lit 3)∧x.17 =(bu r x).17∧x.18 =(bu r x).18∧x.19 =(bu r x).19∧x.20 =(bu r x).20∧(nat_lit 4=nat_lit 4∧nat_lit 4=nat_lit 4)∧x.22.1 =(bu r x).22.1∧x.22.2.1 =(bu r x).22.2.1∧x.23 =(bu r x).23∧True)∧(22:Int)=xV r x∧True)∧ [RowD.mk (Ty.int IntKind.u8) x.11,RowD.mk (Ty.int IntKind.i64) x.13,RowD.mk (Ty.int IntKind.i64) x.14,RowD.mk (Ty.int IntKind.i64) x.16,RowD.mk Ty.bool x.21]=[RowD.mk (Ty.int IntKind.u8) (bu r x).11,RowD.mk (Ty.int IntKind.i64) (bu r x).13,RowD.mk (Ty.int IntKind.i64) (bu r x).14,RowD.mk (Ty.int IntKind.i64) (bu r x).16,RowD.mk Ty.bool (bu r x).21])∧((bif aC r !=(0:Int) then true else bif r.10 ==(0:Int) then true else decide (x.18<IntKind.i64.wrap (r.10*r.5)))=false→((x.1 =(bu r x).1∧x.2 =(bu r x).2∧x.3 =(bu r x).3∧x.4 =(bu r x).4∧x.5 =(bu r x).5∧x.6.1 =(bu r x).6.1∧x.6.2 =(bu r x).6.2∧x.6.3 =(bu r x).6.3∧x.6.4 =(bu r x).6.4∧x.6.5 =(bu r x).6.5∧x.7 =(bu r x).7∧x.8 =(bu r x).8∧x.9 =(bu r x).9∧x.10 =(bu r x).10∧(nat_lit 0=nat_lit 0∧nat_lit 0=nat_lit 0)∧x.12 =(bu r x).12∧(nat_lit 1=nat_lit 1∧nat_lit 1=nat_lit 1)∧(nat_lit 2=nat_lit 2∧nat_lit 2=nat_lit 2)∧x.15 =(bu r x).15∧(nat_lit 3=nat_lit 3∧nat_lit 3=nat_lit 3)∧x.17 =(bu r x).17∧(0:Int) =(bu r x).18∧x.19 =(bu r x).19∧x.20 =(bu r x).20∧(nat_lit 4=nat_lit 4∧nat_lit 4=nat_lit 4)∧x.22.1 =(bu r x).22.1∧x.22.2.1 =(bu r x).22.2.1∧x.23 =(bu r x).23∧True)∧(0:Int)=xV r x∧True)∧ [RowD.mk (Ty.int IntKind.u8) x.11,RowD.mk (Ty.int IntKind.i64) x.13,RowD.mk (Ty.int IntKind.i64) x.14,RowD.mk (Ty.int IntKind.i64) x.16,RowD.mk Ty.bool x.21]=[RowD.mk (Ty.int IntKind.u8) (bu r x).11,RowD.mk (Ty.int IntKind.i64) (bu r x).13,RowD.mk (Ty.int IntKind.i64) (bu r x).14,RowD.mk (Ty.int IntKind.i64) (bu r x).16,RowD.mk Ty.bool (bu r x).21]))
 have hc :(bif aC r != 0 then true else bif r.NewBall==0 then true else decide (x.BallAge<IntKind.i64.wrap (r.NewBall*r.Balls)))=Fi r x:=by simp only [Fi,Bool.cond_true_left]
 rw [hc]
 refine ⟨hs,fun h=>?_,fun h=>?_⟩
 ·have e:bu r x=x:=by simp only [bu,h];rfl
  have l:xV r x=22:=by simp only [xV,h];rfl
  rw [e,l];simp
 ·have e:bu r x={ x with BallAge:=0 }:=by simp only [bu,h];rfl
  have l:xV r x=0:=by simp only [xV,h];rfl
  rw [e,l];simp
theorem Q7:CtrOK Tryz.prog K8 350 (au K8 Bj yT):=by
 refine ba (C:=cf8 [k83,k85] Tryz.f350) (bK (.cons OA (.cons tc .nil)) _) mixed (fn:=Tryz.f350) Tryz.func350 (by kernel_rfl) (by kernel_rfl) (by kernel_rfl) (Λ:=fun _ _=>none) ?_ ?_ ?_
 ·exact fun _ _ _ _ _ _ _ _ h=>by cases h
 ·rintro ⟨r,x,⟨⟩⟩
  exact of_decide_eq_true (by kernel_rfl)
 ·rintro ⟨r,x,⟨⟩⟩ hw hn
  exact Qn r x (hn _ (List.mem_singleton.2 rfl))
theorem Ht {x:Innings} (h:wfD (.nm .Innings) x):lM x.Bowler:=
 gU (bg (aH (aH (aH (aH (aH (aH (aH (aH (aH (aH (aH (B3 h)))))))))))))
theorem zX (x:Innings) (c:Bool) :(cw x c).InOver =(bif c then IntKind.i64.wrap (x.InOver+1) else x.InOver):=by cases c <;> rfl
theorem Ey {r:Rules} {x:Innings} (c:Bool) (h:gM r x=true):ao r x c=x∧ix r x c=false:=by
 unfold ao ix
 rw [if_pos h,if_pos h]
 exact ⟨rfl,rfl⟩
theorem q7 {r:Rules} {x:Innings} {c:Bool} (h:gM r x=false) (h2:decide ((bif c then IntKind.i64.wrap (x.InOver+1) else x.InOver)<r.Balls)=true):ao r x c=cw x c∧ix r x c=false:=by
 have h3 :(cw x c).InOver<r.Balls:=by rw [zX];exact of_decide_eq_true h2
 unfold ao ix
 simp only [h,h3,if_true,Bool.false_eq_true,if_false,and_self]
theorem mu {r:Rules} {x:Innings} {c:Bool} (h:gM r x=false) (h2:decide ((bif c then IntKind.i64.wrap (x.InOver+1) else x.InOver)<r.Balls)=false):ao r x c=A4 (cw x c)∧ix r x c=true:=by
 have h3 :¬(cw x c).InOver<r.Balls:=by rw [zX];exact of_decide_eq_false h2
 unfold ao ix
 simp only [h,h3,Bool.false_eq_true,if_false,and_self]
theorem Qm (r:Rules) (x:Innings) (c:Bool) (hs:ah x) (hb:lM x.Bowler) :(evFn (cf8 [k47,k83,k84,k85] Tryz.f377) (fun _=>none) Tryz.f377 (bo Fv (r,x,c,()))).sat fun v' rows=>leV v' (yS (r,x,c,())).v∧rows =(yS (r,x,c,())).rows:=by
 refine cast (by kernel_rfl) (?_:ah x∧((bif !bG x x.12 then true else aC r !=(0:Int))=true→((x.1 =(ao r x c).1∧x.2 =(ao r x c).2∧x.3 =(ao r x c).3∧x.4 =(ao r x c).4∧x.5 =(ao r x c).5∧x.6.1 =(ao r x c).6.1∧x.6.2 =(ao r x c).6.2∧x.6.3 =(ao r x c).6.3∧x.6.4 =(ao r x c).6.4∧x.6.5 =(ao r x c).6.5∧x.7 =(ao r x c).7∧x.8 =(ao r x c).8∧x.9 =(ao r x c).9∧x.10 =(ao r x c).10∧(nat_lit 0=nat_lit 0∧nat_lit 0=nat_lit 0)∧x.12 =(ao r x c).12∧(nat_lit 1=nat_lit 1∧nat_lit 1=nat_lit 1)∧(nat_lit 2=nat_lit 2∧nat_lit 2=nat_lit 2)∧x.15 =(ao r x c).15∧(nat_lit 3=nat_lit 3∧nat_lit 3=nat_lit 3)∧x.17 =(ao r x c).17∧x.18 =(ao r x c).18∧x.19 =(ao r x c).19∧x.20 =(ao r x c).20∧(nat_lit 4=nat_lit 4∧nat_lit 4=nat_lit 4)∧x.22.1 =(ao r x c).22.1∧x.22.2.1 =(ao r x c).22.2.1∧x.23 =(ao r x c).23∧True)∧false=ix r x c∧True)∧ [RowD.mk (Ty.int IntKind.u8) x.11,RowD.mk (Ty.int IntKind.i64) x.13,RowD.mk (Ty.int IntKind.i64) x.14,RowD.mk (Ty.int IntKind.i64) x.16,RowD.mk Ty.bool x.21]=[RowD.mk (Ty.int IntKind.u8) (ao r x c).11,RowD.mk (Ty.int IntKind.i64) (ao r x c).13,RowD.mk (Ty.int IntKind.i64) (ao r x c).14,RowD.mk (Ty.int IntKind.i64) (ao r x c).16,RowD.mk Ty.bool (ao r x c).21])∧((bif !bG x x.12 then true else aC r !=(0:Int))=false→((!fK x.13 x.12)=true→(x.13.length+[x.12].length) *(8:Nat)≤(70368744177664:Nat)∧((c=true→((0:Int)≤IntKind.i64.wrap (x.12 - (1:Int))∧IntKind.i64.wrap (x.12 - (1:Int)) <(↑x.16.length:Int))∧((0:Int)≤IntKind.i64.wrap (x.12 - (1:Int))∧IntKind.i64.wrap (x.12 - (1:Int)) <(↑x.16.length:Int))∧True)∧(c=false→True))∧(true=true→(decide ((bif c then IntKind.i64.wrap (x.8 +(1:Int)) else x.8)<r.5)=true→(((bif c then x.1 else x.1) =(ao r x c).1∧(bif c then x.2 else x.2) =(ao r x c).2∧(bif c then x.3 else x.3) =(ao r x c).3∧(bif c then x.4 else x.4) =(ao r x c).4∧(bif c then x.5 else x.5) =(ao r x c).5∧(bif c then x.6.1 else x.6.1) =(ao r x c).6.1∧(bif c then x.6.2 else x.6.2) =(ao r x c).6.2∧(bif c then x.6.3 else x.6.3) =(ao r x c).6.3∧(bif c then x.6.4 else x.6.4) =(ao r x c).6.4∧(bif c then x.6.5 else x.6.5) =(ao r x c).6.5∧(bif c then x.7 else x.7) =(ao r x c).7∧(bif c then IntKind.i64.wrap (x.8 +(1:Int)) else x.8) =(ao r x c).8∧(bif c then x.9 else x.9) =(ao r x c).9∧(bif c then x.10 else x.10) =(ao r x c).10∧(nat_lit 0=nat_lit 0∧nat_lit 0=nat_lit 0)∧(bif c then x.12 else x.12) =(ao r x c).12∧(nat_lit 1=nat_lit 1∧nat_lit 1=nat_lit 1)∧(nat_lit 2=nat_lit 2∧nat_lit 2=nat_lit 2)∧(bif c then x.15 else x.15) =(ao r x c).15∧(nat_lit 3=nat_lit 3∧nat_lit 3=nat_lit 3)∧(bif c then x.17 else x.17) =(ao r x c).17∧(bif c then IntKind.i64.wrap (x.18 +(1:Int)) else x.18) =(ao r x c).18∧(bif c then x.19 else x.19) =(ao r x c).19∧(bif c then x.20 else x.20) =(ao r x c).20∧(nat_lit 4=nat_lit 4∧nat_lit 4=nat_lit 4)∧(bif c then x.22.1 else x.22.1) =(ao r x c).22.1∧(bif c then x.22.2.1 else x.22.2.1) =(ao r x c).22.2.1∧(bif c then x.23 else x.23) =(ao r x c).23∧True)∧false=ix r x c∧True)∧ [RowD.mk (Ty.int IntKind.u8) x.11,RowD.mk (Ty.int IntKind.i64) (x.13++[x.12]),RowD.mk (Ty.int IntKind.i64) x.14,RowD.mk (Ty.int IntKind.i64) (bif c then x.16.set (IntKind.i64.wrap (x.12 - (1:Int))).toNat (IntKind.i64.wrap (x.16.getD (IntKind.i64.wrap (x.12 - (1:Int))).toNat (dflt (Ty.int IntKind.i64)) +(1:Int))) else x.16),RowD.mk Ty.bool x.21]=[RowD.mk (Ty.int IntKind.u8) (ao r x c).11,RowD.mk (Ty.int IntKind.i64) (ao r x c).13,RowD.mk (Ty.int IntKind.i64) (ao r x c).14,RowD.mk (Ty.int IntKind.i64) (ao r x c).16,RowD.mk Ty.bool (ao r x c).21])∧(decide ((bif c then IntKind.i64.wrap (x.8 +(1:Int)) else x.8)<r.5)=false→(((bif c then x.1 else x.1) =(ao r x c).1∧(bif c then x.2 else x.2) =(ao r x c).2∧(bif c then x.3 else x.3) =(ao r x c).3∧(bif c then x.4 else x.4) =(ao r x c).4∧(bif c then x.5 else x.5) =(ao r x c).5∧(bif c then x.6.1 else x.6.1) =(ao r x c).6.1∧(bif c then x.6.2 else x.6.2) =(ao r x c).6.2∧(bif c then x.6.3 else x.6.3) =(ao r x c).6.3∧(bif c then x.6.4 else x.6.4) =(ao r x c).6.4∧(bif c then x.6.5 else x.6.5) =(ao r x c).6.5∧IntKind.i64.wrap ((bif c then x.7 else x.7) +(1:Int)) =(ao r x c).7∧(0:Int) =(ao r x c).8∧(bif c then x.9 else x.9) =(ao r x c).9∧(bif c then x.10 else x.10) =(ao r x c).10∧(nat_lit 0=nat_lit 0∧nat_lit 0=nat_lit 0)∧(0:Int) =(ao r x c).12∧(nat_lit 1=nat_lit 1∧nat_lit 1=nat_lit 1)∧(nat_lit 2=nat_lit 2∧nat_lit 2=nat_lit 2)∧(bif c then x.15 else x.15) =(ao r x c).15∧(nat_lit 3=nat_lit 3∧nat_lit 3=nat_lit 3)∧(bif c then x.17 else x.17) =(ao r x c).17∧(bif c then IntKind.i64.wrap (x.18 +(1:Int)) else x.18) =(ao r x c).18∧(bif c then x.19 else x.19) =(ao r x c).19∧(bif c then x.20 else x.20) =(ao r x c).20∧(nat_lit 4=nat_lit 4∧nat_lit 4=nat_lit 4)∧(bif c then x.22.1 else x.22.1) =(ao r x c).22.1∧(bif c then x.22.2.1 else x.22.2.1) =(ao r x c).22.2.1∧(bif c then x.23 else x.23) =(ao r x c).23∧True)∧true=ix r x c∧True)∧ [RowD.mk (Ty.int IntKind.u8) x.11,RowD.mk (Ty.int IntKind.i64) [],RowD.mk (Ty.int IntKind.i64) (x.13++[x.12]),RowD.mk (Ty.int IntKind.i64) (bif c then x.16.set (IntKind.i64.wrap (x.12 - (1:Int))).toNat (IntKind.i64.wrap (x.16.getD (IntKind.i64.wrap (x.12 - (1:Int))).toNat (dflt (Ty.int IntKind.i64)) +(1:Int))) else x.16),RowD.mk Ty.bool x.21]=[RowD.mk (Ty.int IntKind.u8) (ao r x c).11,RowD.mk (Ty.int IntKind.i64) (ao r x c).13,RowD.mk (Ty.int IntKind.i64) (ao r x c).14,RowD.mk (Ty.int IntKind.i64) (ao r x c).16,RowD.mk Ty.bool (ao r x c).21])))∧((!fK x.13 x.12)=false→((c=true→((0:Int)≤IntKind.i64.wrap (x.12 - (1:Int))∧IntKind.i64.wrap (x.12 - (1:Int)) <(↑x.16.length:Int))∧((0:Int)≤IntKind.i64.wrap (x.12 - (1:Int))∧IntKind.i64.wrap (x.12 - (1:Int)) <(↑x.16.length:Int))∧True)∧(c=false→True))∧(true=true→(decide ((bif c then IntKind.i64.wrap (x.8 +(1:Int)) else x.8)<r.5)=true→(((bif c then x.1 else x.1) =(ao r x c).1∧(bif c then x.2 else x.2) =(ao r x c).2∧(bif c then x.3 else x.3) =(ao r x c).3∧(bif c then x.4 else x.4) =(ao r x c).4∧(bif c then x.5 else x.5) =(ao r x c).5∧(bif c then x.6.1 else x.6.1) =(ao r x c).6.1∧(bif c then x.6.2 else x.6.2) =(ao r x c).6.2∧(bif c then x.6.3 else x.6.3) =(ao r x c).6.3∧(bif c then x.6.4 else x.6.4) =(ao r x c).6.4∧(bif c then x.6.5 else x.6.5) =(ao r x c).6.5∧(bif c then x.7 else x.7) =(ao r x c).7∧(bif c then IntKind.i64.wrap (x.8 +(1:Int)) else x.8) =(ao r x c).8∧(bif c then x.9 else x.9) =(ao r x c).9∧(bif c then x.10 else x.10) =(ao r x c).10∧(nat_lit 0=nat_lit 0∧nat_lit 0=nat_lit 0)∧(bif c then x.12 else x.12) =(ao r x c).12∧(nat_lit 1=nat_lit 1∧nat_lit 1=nat_lit 1)∧(nat_lit 2=nat_lit 2∧nat_lit 2=nat_lit 2)∧(bif c then x.15 else x.15) =(ao r x c).15∧(nat_lit 3=nat_lit 3∧nat_lit 3=nat_lit 3)∧(bif c then x.17 else x.17) =(ao r x c).17∧(bif c then IntKind.i64.wrap (x.18 +(1:Int)) else x.18) =(ao r x c).18∧(bif c then x.19 else x.19) =(ao r x c).19∧(bif c then x.20 else x.20) =(ao r x c).20∧(nat_lit 4=nat_lit 4∧nat_lit 4=nat_lit 4)∧(bif c then x.22.1 else x.22.1) =(ao r x c).22.1∧(bif c then x.22.2.1 else x.22.2.1) =(ao r x c).22.2.1∧(bif c then x.23 else x.23) =(ao r x c).23∧True)∧false=ix r x c∧True)∧ [RowD.mk (Ty.int IntKind.u8) x.11,RowD.mk (Ty.int IntKind.i64) x.13,RowD.mk (Ty.int IntKind.i64) x.14,RowD.mk (Ty.int IntKind.i64) (bif c then x.16.set (IntKind.i64.wrap (x.12 - (1:Int))).toNat (IntKind.i64.wrap (x.16.getD (IntKind.i64.wrap (x.12 - (1:Int))).toNat (dflt (Ty.int IntKind.i64)) +(1:Int))) else x.16),RowD.mk Ty.bool x.21]=[RowD.mk (Ty.int IntKind.u8) (ao r x c).11,RowD.mk (Ty.int IntKind.i64) (ao r x c).13,RowD.mk (Ty.int IntKind.i64) (ao r x c).14,RowD.mk (Ty.int IntKind.i64) (ao r x c).16,RowD.mk Ty.bool (ao r x c).21])∧(decide ((bif c then IntKind.i64.wrap (x.8 +(1:Int)) else x.8)<r.5)=false→(((bif c then x.1 else x.1) =(ao r x c).1∧(bif c then x.2 else x.2) =(ao r x c).2∧(bif c then x.3 else x.3) =(ao r x c).3∧(bif c then x.4 else x.4) =(ao r x c).4∧(bif c then x.5 else x.5) =(ao r x c).5∧(bif c then x.6.1 else x.6.1) =(ao r x c).6.1∧(bif c then x.6.2 else x.6.2) =(ao r x c).6.2∧(bif c then x.6.3 else x.6.3) =(ao r x c).6.3∧(bif c then x.6.4 else x.6.4) =(ao r x c).6.4∧(bif c then x.6.5 else x.6.5) =(ao r x c).6.5∧IntKind.i64.wrap ((bif c then x.7 else x.7) +(1:Int)) =(ao r x c).7∧(0:Int) =(ao r x c).8∧(bif c then x.9 else x.9) =(ao r x c).9∧(bif c then x.10 else x.10) =(ao r x c).10∧(nat_lit 0=nat_lit 0∧nat_lit 0=nat_lit 0)∧(0:Int) =(ao r x c).12∧(nat_lit 1=nat_lit 1∧nat_lit 1=nat_lit 1)∧(nat_lit 2=nat_lit 2∧nat_lit 2=nat_lit 2)∧(bif c then x.15 else x.15) =(ao r x c).15∧(nat_lit 3=nat_lit 3∧nat_lit 3=nat_lit 3)∧(bif c then x.17 else x.17) =(ao r x c).17∧(bif c then IntKind.i64.wrap (x.18 +(1:Int)) else x.18) =(ao r x c).18∧(bif c then x.19 else x.19) =(ao r x c).19∧(bif c then x.20 else x.20) =(ao r x c).20∧(nat_lit 4=nat_lit 4∧nat_lit 4=nat_lit 4)∧(bif c then x.22.1 else x.22.1) =(ao r x c).22.1∧(bif c then x.22.2.1 else x.22.2.1) =(ao r x c).22.2.1∧(bif c then x.23 else x.23) =(ao r x c).23∧True)∧true=ix r x c∧True)∧ [RowD.mk (Ty.int IntKind.u8) x.11,RowD.mk (Ty.int IntKind.i64) [],RowD.mk (Ty.int IntKind.i64) x.13,RowD.mk (Ty.int IntKind.i64) (bif c then x.16.set (IntKind.i64.wrap (x.12 - (1:Int))).toNat (IntKind.i64.wrap (x.16.getD (IntKind.i64.wrap (x.12 - (1:Int))).toNat (dflt (Ty.int IntKind.i64)) +(1:Int))) else x.16),RowD.mk Ty.bool x.21]=[RowD.mk (Ty.int IntKind.u8) (ao r x c).11,RowD.mk (Ty.int IntKind.i64) (ao r x c).13,RowD.mk (Ty.int IntKind.i64) (ao r x c).14,RowD.mk (Ty.int IntKind.i64) (ao r x c).16,RowD.mk Ty.bool (ao r x c).21])))))
 have h0 :(bif !bG x x.Bowler then true else aC r != 0)=gM r x:=by simp only [gM];cases bG x x.Bowler <;> cases (aC r != 0) <;> rfl
 rw [h0]
 have hk:gM r x=false→IntKind.i64.wrap (x.Bowler - 1)=x.Bowler - 1∧0≤x.Bowler - 1∧x.Bowler - 1 <(x.Bowled.length:Int):=fun h=>xH hb (by
  cases hk:bG x x.Bowler with
  | true=>rfl
  | false=>simp only [gM,hk] at h;cases h)
 refine ⟨hs,fun h=>?_,fun h=>?_⟩
 ·rw [(Ey c h).1,(Ey c h).2];simp
 ·obtain ⟨ew,k1,k2⟩:=hk h
  rw [ew]
  have hd:x.Bowled.getD (x.Bowler - 1).toNat (dflt (Ty.int IntKind.i64))=x.Bowled.getD (x.Bowler - 1).toNat 0:=rfl
  refine ⟨fun h1=>⟨?_,⟨fun _=>⟨⟨k1,k2⟩,⟨k1,k2⟩,trivial⟩,fun _=>trivial⟩,fun _=>⟨fun h2=>?_,fun h2=>?_⟩⟩,fun h1=>⟨⟨fun _=>⟨⟨k1,k2⟩,⟨k1,k2⟩,trivial⟩,fun _=>trivial⟩,fun _=>⟨fun h2=>?_,fun h2=>?_⟩⟩⟩
  ·have:=hs.2.1
   simp only [List.length_cons,List.length_nil]
   omega
  ·have h1:fK x.Bowlers x.Bowler=false:=by simpa using h1
   rw [(q7 h h2).1,(q7 h h2).2]
   cases c <;> simp [cw,fo,rM,h1] <;> first|rfl|exact ⟨rfl,rfl⟩
  ·have h1:fK x.Bowlers x.Bowler=false:=by simpa using h1
   rw [(mu h h2).1,(mu h h2).2]
   cases c <;> simp [A4,cw,fo,rM,h1] <;> first|rfl|exact ⟨rfl,rfl⟩
  ·have h1:fK x.Bowlers x.Bowler=true:=by simpa using h1
   rw [(q7 h h2).1,(q7 h h2).2]
   cases c <;> simp [cw,fo,rM,h1] <;> first|rfl|exact ⟨rfl,rfl⟩
  ·have h1:fK x.Bowlers x.Bowler=true:=by simpa using h1
   rw [(mu h h2).1,(mu h h2).2]
   cases c <;> simp [A4,cw,fo,rM,h1] <;> first|rfl|exact ⟨rfl,rfl⟩
theorem Q6:CtrOK Tryz.prog K8 377 (au K8 Fv yS):=by
 refine ba (C:=cf8 [k47,k83,k84,k85] Tryz.f377) (bK (.cons Lv (.cons OA (.cons OB (.cons tc .nil)))) _) mixed (fn:=Tryz.f377) Tryz.func377 (by kernel_rfl) (by kernel_rfl) (by kernel_rfl) (Λ:=fun _ _=>none) ?_ ?_ ?_
 ·exact fun _ _ _ _ _ _ _ _ h=>by cases h
 ·rintro ⟨r,x,c,⟨⟩⟩
  exact of_decide_eq_true (by kernel_rfl)
 ·rintro ⟨r,x,c,⟨⟩⟩ hw hn
  exact Qm r x c (hn _ (List.mem_singleton.2 rfl)) (Ht (bg (aH hw)))
end Go.Proofs.YtffdpnmioidloaaGreatDoor
namespace Go.Proofs.YtffdpnmioidloaaGreatDoor
open Go Go.Mir
attribute [local irreducible] Go.Mir.DT.sat Go.Mir.evPat Go.Mir.RT.sat Go.Mir.evFn
abbrev qRI:Pat:=bX [.nm .Rules,.nm .Innings]
def C7 (r:Rules) (x:Innings):Bool:=r.Overs==0&&x.Overs==0||r.Overs != 0&&inW x.Overs 1 r.Overs
def AK (r:Rules) (x:Innings):Bool:=(x.Batters.length:Int)==r.Side&&((x.Bowled.length:Int)==r.Side&&(x.Subs.length:Int)==r.Side)
def bR (r:Rules) (x:Innings):Bool:=
 aC r==0&&(inW x.Side 1 2&&(AK r x&&(decide (x.Ending≤5)&&(nE x r.Side&&(inW x.Bowler 0 r.Side&&(inW x.Keeper 0 r.Side&&(iy x.Bowlers r.Side&&(iy x.Before r.Side&&(C7 r x&&(inW x.InOver 0 (W (r.Balls - 1))&&s9 x))))))))))
def D9:Den (tyP qRI)→List Prop×Den (tyP aF):=fun x=>([ah x.2.1],(bR x.1 x.2.1,()))
def xg (r:Rules) (x:Innings):Int:=
 if !bR r x then 0 else if decide (x.Target>0)&&decide (x.Runs≥x.Target) then 3 else if cS x&&lV x then 1 else if decide (x.Overs>0)&&decide (x.Complete≥x.Overs) then 2 else 0
def OP:Den (tyP qRI)→List Prop×Den (tyP qH):=fun x=>([ah x.2.1],(xg x.1 x.2.1,()))
def wY (r:Rules) (x:Innings):Int:=W (W (x.Complete*r.Balls)+x.InOver)
def DH:Den (tyP qRI)→List Prop×Den (tyP bA):=fun x=>([],(wY x.1 x.2.1,()))
def A7 (x:Innings):Innings:={ x with Runs:=W (x.Runs+5),Extras:={ x.Extras with Penalties:=W (x.Extras.Penalties+5) } }
def Kj:Den (tyP qIn)→List Prop×Den (tyP qIn):=fun x=>([ah x.1],(A7 x.1,()))
def yr:Den (tyP qIn)→List Prop×Den (tyP qIn):=fun x=>([ah x.1],(x.1,()))
abbrev jW:Pat:=bX [.nm .Rules,.nm .Innings,.nm .Event]
abbrev qIE:Pat:=bX [.nm .Innings,.nm .Event]
def qi (r:Rules) (x:Innings) (e:Mir.Event):Int:=if e.Side != x.Side then 2 else if r.Overs != 0 then 20 else 0
def na (r:Rules) (x:Innings) (e:Mir.Event):Innings:=if qi r x e != 0 then x else { x with Ending:=4 }
def Ka:Den (tyP jW)→List Prop×Den (tyP q2L):=fun x=>([ah x.2.1],(na x.1 x.2.1 x.2.2.1,qi x.1 x.2.1 x.2.2.1,()))
def pT (e:Mir.Event):Int:=if e.Runs != 5 then 23 else 0
def qS (x:Innings) (e:Mir.Event):Innings:=if pT e != 0 then x else if e.Side==x.Side then A7 x else if x.Target>0 then { x with Target:=W (x.Target+5) } else x
def tY:Den (tyP qIE)→List Prop×Den (tyP q2L):=fun x=>([ah x.1],(qS x.1 x.2.1,pT x.2.1,()))
def JC (x:Innings) (s:Int):Int:=if s==1 then x.Reviews.1 else x.Reviews.2.1
def mc (r:Rules) (x:Innings) (s:Int):Int:=if !x.Fresh||decide (JC x s≥r.Reviews) then 24 else 0
def wC (x:Innings) (s:Int):Innings:={ x with Reviews:=if s==1 then (W (x.Reviews.1+1),x.Reviews.2.1,()) else (x.Reviews.1,W (x.Reviews.2.1+1),()) }
def me (r:Rules) (x:Innings) (s:Int) (k:Bool):Innings:=if mc r x s != 0 then x else if k then x else wC x s
def jH (s:Int):Prop:=s=1∨s=2
def yz:Den (tyP jW)→List Prop×Den (tyP q2L):=fun x=>([ah x.2.1,jH x.2.2.1.Side],(me x.1 x.2.1 x.2.2.1.Side x.2.2.1.Yes,mc x.1 x.2.1 x.2.2.1.Side,()))
def mf (r:Rules) (x:Innings) (t o:Int):Bool:=
 r.Overs==0 ||(t==0&&o==0 ||(decide (t>0)&&(x.Target==0||decide (t≤x.Runs))||decide (o>0)&&(decide (o>r.Overs)||decide (W (o*r.Balls)<wY r x))))
def tT (r:Rules) (x:Innings) (t o:Int):Int:=if mf r x t o then 25 else 0
def J6 (x:Innings) (t:Int):Innings:=if t>0 then { x with Target:=t } else x
def ML (x:Innings) (o:Int):Innings:=if o>0 then { x with Overs:=o } else x
def pd (r:Rules) (x:Innings) (t o:Int):Innings:=if mf r x t o then x else ML (J6 x t) o
def yA:Den (tyP jW)→List Prop×Den (tyP q2L):=fun x=>([ah x.2.1],(pd x.1 x.2.1 x.2.2.1.Runs x.2.2.1.Overs,tT x.1 x.2.1 x.2.2.1.Runs x.2.2.1.Overs,()))
theorem GW (x:Innings) (hs:ah x) :(evPat (an [k45,k90,k91] Tryz.f278) (fun _=>none) Tryz.f278 qIn qIn (x,())).sat fun z_=>z_ =(yr (x,())).2:=by
 refine cast (by kernel_rfl) (?_:x.11.length≤(1000000:Nat)∧x.13.length≤(1000000:Nat)∧x.14.length≤(1000000:Nat)∧x.16.length≤(1000000:Nat)∧x.21.length≤(1000000:Nat)∧(x,()) =(x,()))
 obtain ⟨h1,h2,h3,h4,h5⟩:=hs
 simp [h1,h2,h3,h4,h5]
def dx:FuncId×Ctr:=(278,af KE qIn qIn yr)
theorem gD:CtrOK Tryz.prog KE 278 (af KE qIn qIn yr):=by
 refine ar (C:=an [k45,k90,k91] Tryz.f278) (al (.consU Lu rfl (.consU Ly rfl (.consU Lz rfl .nil))) _) mixed (fn:=Tryz.f278) Tryz.func278 (by kernel_rfl) (by kernel_rfl) (by kernel_rfl) (by kernel_rfl) (by kernel_rfl) (by kernel_rfl) (Λ:=fun _ _=>none) ?_ ?_
 ·exact fun _ _ _ _ _ _ _ _ h=>by cases h
 ·rintro ⟨x,⟨⟩⟩ hw hn
  exact GW x (hn _ List.mem_cons_self)
theorem GX (r:Rules) (x:Innings) (hs:ah x) :(evPat (an [k85,cM,vJ,IA,vL] Tryz.f272) (fun _=>none) Tryz.f272 qRI aF (r,x,())).sat fun z_=>z_ =(D9 (r,x,())).2:=by
 refine cast (by kernel_rfl) (?_:let r1:Bool:=inW x.8 (0:Int) (IntKind.i64.wrap (r.5 - (1:Int)));let r2:Bool:=bif r.4 !=(0:Int) then inW x.3 (1:Int) r.4 else false;let r3:Bool:=bif aC r !=(0:Int) then true else !inW x.1 (1:Int) (2:Int);let r4:Bool:=bif !nE x r.2 then true else bif !inW x.12 (0:Int) r.2 then true else bif !inW x.19 (0:Int) r.2 then true else bif !iy x.13 r.2 then true else !iy x.14 r.2;let r5:Bool:=bif (↑x.11.length:Int) != r.2 then true else bif (↑x.16.length:Int) != r.2 then true else bif (↑x.21.length:Int) != r.2 then true else decide (x.23 >(5:Int));let r6:Bool:=bif r.4 ==(0:Int) then bif x.3 ==(0:Int) then true else r2 else r2;(r3=true→(false,()) =(bR r x,()))∧(r3=false→(r5=true→(false,()) =(bR r x,()))∧(r5=false→(ah x∧((!nE x r.2)=true→True)∧((!nE x r.2)=false→((!inW x.12 (0:Int) r.2)=true→True)∧((!inW x.12 (0:Int) r.2)=false→((!inW x.19 (0:Int) r.2)=true→True)∧((!inW x.19 (0:Int) r.2)=false→((!iy x.13 r.2)=true→True)∧((!iy x.13 r.2)=false→True)))))∧(true=true→(r4=true→(false,()) =(bR r x,()))∧(r4=false→((r6=true→(r1=true→ah x∧True)∧(r1=false→True))∧(r6=false→True))∧(true=true→(bif r6 then bif r1 then s9 x else false else false,()) =(bR r x,())))))))
 intro r1 r2 r3 r4 r5 r6
 clear_value (hr1:r1=_) (hr2:r2=_) (hr3:r3=_) (hr4:r4=_) (hr5:r5=_) (hr6:r6=_)
 have e3:r3=!(aC r==0&&inW x.Side 1 2):=by grind
 have e5:r5=!(AK r x&&decide (x.Ending≤5)):=by
  have hd:decide (x.Ending>5)=!decide (x.Ending≤5):=by by_cases h:x.Ending≤5 <;> simp [h] <;> omega
  rw [hr5,hd]
  unfold AK
  cases h1 :(x.Batters.length:Int)==r.Side <;> cases h2 :(x.Bowled.length:Int)==r.Side <;> cases h3 :(x.Subs.length:Int)==r.Side <;> simp [bne,h1,h2,h3]
 have e4:r4=!(nE x r.Side&&(inW x.Bowler 0 r.Side&&(inW x.Keeper 0 r.Side&&(iy x.Bowlers r.Side&&iy x.Before r.Side)))):=by rw [hr4];cases nE x r.Side <;> cases inW x.Bowler 0 r.Side <;> cases inW x.Keeper 0 r.Side <;> cases iy x.Bowlers r.Side <;> rfl
 have e6:r6=C7 r x:=by grind [C7]
 have hv:bR r x =(!r3&&(!r5&&(!r4&&(r6&&(r1&&s9 x))))):=by rw [e3,e5,e4,e6,hr1];unfold bR;simp only [Bool.not_not,Bool.and_assoc]
 rw [hv]
 cases r3 <;> cases r5 <;> cases r4 <;> cases r6 <;> cases r1 <;> simp [hs]
def oJ:FuncId×Ctr:=(272,af KE qRI aF D9)
theorem tj:CtrOK Tryz.prog KE 272 (af KE qRI aF D9):=by
 refine ar (C:=an [k85,cM,vJ,IA,vL] Tryz.f272) (al (.consU tc rfl (.consU eY rfl (.consU CR rfl (.consU LO rfl (.consU CT rfl .nil))))) _) mixed (fn:=Tryz.f272) Tryz.func272 (by kernel_rfl) (by kernel_rfl) (by kernel_rfl) (by kernel_rfl) (by kernel_rfl) (by kernel_rfl) (Λ:=fun _ _=>none) ?_ ?_
 ·exact fun _ _ _ _ _ _ _ _ h=>by cases h
 ·rintro ⟨r,x,⟨⟩⟩ hw hn
  exact GX r x (hn _ List.mem_cons_self)
theorem GT (r:Rules) (x:Innings) :(evPat (an [] Tryz.f384) (fun _=>none) Tryz.f384 qRI bA (r,x,())).sat fun z_=>z_ =(DH (r,x,())).2:=by
 refine cast (by kernel_rfl) (?_ :(IntKind.i64.wrap (IntKind.i64.wrap (x.7*r.5)+x.8),()) =(wY r x,()))
 rfl
def EY:FuncId×Ctr:=(384,af KE qRI bA DH)
theorem I9:CtrOK Tryz.prog KE 384 (af KE qRI bA DH):=by
 refine ar (C:=an [] Tryz.f384) (al (CtrsOK.nil) _) mixed (fn:=Tryz.f384) Tryz.func384 (by kernel_rfl) (by kernel_rfl) (by kernel_rfl) (by kernel_rfl) (by kernel_rfl) (by kernel_rfl) (Λ:=fun _ _=>none) ?_ ?_
 ·exact fun _ _ _ _ _ _ _ _ h=>by cases h
 ·rintro ⟨r,x,⟨⟩⟩ hw hn
  exact GT r x
theorem BE (x:Innings) (hs:ah x) :(evPat (an [dx] Tryz.f323) (fun _=>none) Tryz.f323 qIn qIn (x,())).sat fun z_=>z_ =(Kj (x,())).2:=by
 refine cast (by kernel_rfl) (?_:ah x∧(Innings.mk x.1 x.2 x.3 (IntKind.i64.wrap (x.4 +(5:Int))) x.5 (Extras.mk x.6.1 x.6.2 x.6.3 x.6.4 (IntKind.i64.wrap (x.6.5 +(5:Int)))) x.7 x.8 x.9 x.10 x.11 x.12 x.13 x.14 x.15 x.16 x.17 x.18 x.19 x.20 x.21 x.22 x.23,()) =(A7 x,()))
 exact ⟨hs,rfl⟩
def jO:FuncId×Ctr:=(323,af KE qIn qIn Kj)
theorem oe:CtrOK Tryz.prog KE 323 (af KE qIn qIn Kj):=by
 refine ar (C:=an [dx] Tryz.f323) (al (.consU gD rfl .nil) _) mixed (fn:=Tryz.f323) Tryz.func323 (by kernel_rfl) (by kernel_rfl) (by kernel_rfl) (by kernel_rfl) (by kernel_rfl) (by kernel_rfl) (Λ:=fun _ _=>none) ?_ ?_
 ·exact fun _ _ _ _ _ _ _ _ h=>by cases h
 ·rintro ⟨x,⟨⟩⟩ hw hn
  exact BE x (hn _ List.mem_cons_self)
theorem Du (r:Rules) (x:Innings) (hs:ah x) :(evPat (an [oJ,gB,xI] Tryz.f322) (fun _=>none) Tryz.f322 qRI qH (r,x,())).sat fun z_=>z_ =(OP (r,x,())).2:=by
 refine cast (by kernel_rfl) (?_:let r1:Bool:=bif cS x then (↑(AJ x).length:Int) ==(0:Int) else false;let r2:Bool:=bif decide (x.2 >(0:Int)) then decide (x.4≥x.2) else false;let r3:Bool:=bif decide (x.3 >(0:Int)) then decide (x.7≥x.3) else false;ah x∧((!bR r x)=true→((0:Int),()) =(xg r x,()))∧((!bR r x)=false→(r2=true→((3:Int),()) =(xg r x,()))∧(r2=false→((cS x=true→ah x∧True)∧(cS x=false→True))∧(true=true→(r1=true→((1:Int),()) =(xg r x,()))∧(r1=false→(r3=true→((2:Int),()) =(xg r x,()))∧(r3=false→((0:Int),()) =(xg r x,())))))))
 intro r1 r2 r3
 clear_value (hr1:r1=_) (hr2:r2=_) (hr3:r3=_)
 grind [xg,lV]
def Az:FuncId×Ctr:=(322,af KE qRI qH OP)
theorem Gt:CtrOK Tryz.prog KE 322 (af KE qRI qH OP):=by
 refine ar (C:=an [oJ,gB,xI] Tryz.f322) (al (.consU tj rfl (.consU mR rfl (.consU Fl rfl .nil))) _) mixed (fn:=Tryz.f322) Tryz.func322 (by kernel_rfl) (by kernel_rfl) (by kernel_rfl) (by kernel_rfl) (by kernel_rfl) (by kernel_rfl) (Λ:=fun _ _=>none) ?_ ?_
 ·exact fun _ _ _ _ _ _ _ _ h=>by cases h
 ·rintro ⟨r,x,⟨⟩⟩ hw hn
  exact Du r x (hn _ List.mem_cons_self)
theorem BC (r:Rules) (x:Innings) (e:Mir.Event) (hs:ah x) :(evPat (an [dx] Tryz.f351) (fun _=>none) Tryz.f351 jW q2L (r,x,e,())).sat fun z_=>z_ =(Ka (r,x,e,())).2:=by
 refine cast (by kernel_rfl) (?_:ah x∧((e.2 != x.1)=true→(x,(2:Int),()) =(na r x e,qi r x e,()))∧((e.2 != x.1)=false→((r.4 !=(0:Int))=true→(x,(20:Int),()) =(na r x e,qi r x e,()))∧((r.4 !=(0:Int))=false→(Innings.mk x.1 x.2 x.3 x.4 x.5 x.6 x.7 x.8 x.9 x.10 x.11 x.12 x.13 x.14 x.15 x.16 x.17 x.18 x.19 x.20 x.21 x.22 (4:Int),(0:Int),()) =(na r x e,qi r x e,()))))
 grind [na,qi]
def vK:FuncId×Ctr:=(351,af KE jW q2L Ka)
theorem CS:CtrOK Tryz.prog KE 351 (af KE jW q2L Ka):=by
 refine ar (C:=an [dx] Tryz.f351) (al (.consU gD rfl .nil) _) mixed (fn:=Tryz.f351) Tryz.func351 (by kernel_rfl) (by kernel_rfl) (by kernel_rfl) (by kernel_rfl) (by kernel_rfl) (by kernel_rfl) (Λ:=fun _ _=>none) ?_ ?_
 ·exact fun _ _ _ _ _ _ _ _ h=>by cases h
 ·rintro ⟨r,x,e,⟨⟩⟩ hw hn
  exact BC r x e (hn _ List.mem_cons_self)
theorem MI (x:Innings) (e:Mir.Event) (hs:ah x) :(evPat (an [dx,jO] Tryz.f352) (fun _=>none) Tryz.f352 qIE q2L (x,e,())).sat fun z_=>z_ =(tY (x,e,())).2:=by
 refine cast (by kernel_rfl) (?_:let r1:Bool:=decide (x.2 >(0:Int));ah x∧((e.6 !=(5:Int))=true→(x,(23:Int),()) =(qS x e,pT e,()))∧((e.6 !=(5:Int))=false→((e.2==x.1)=true→ah x∧(Innings.mk x.1 x.2 x.3 (W (x.4 +(5:Int))) x.5 (Extras.mk x.6.1 x.6.2 x.6.3 x.6.4 (W (x.6.5 +(5:Int)))) x.7 x.8 x.9 x.10 x.11 x.12 x.13 x.14 x.15 x.16 x.17 x.18 x.19 x.20 x.21 x.22 x.23,(0:Int),()) =(qS x e,pT e,()))∧((e.2==x.1)=false→(Innings.mk (bif r1 then x.1 else x.1) (bif r1 then IntKind.i64.wrap (x.2 +(5:Int)) else x.2) (bif r1 then x.3 else x.3) (bif r1 then x.4 else x.4) (bif r1 then x.5 else x.5) (Extras.mk (bif r1 then x.6.1 else x.6.1) (bif r1 then x.6.2 else x.6.2) (bif r1 then x.6.3 else x.6.3) (bif r1 then x.6.4 else x.6.4) (bif r1 then x.6.5 else x.6.5)) (bif r1 then x.7 else x.7) (bif r1 then x.8 else x.8) (bif r1 then x.9 else x.9) (bif r1 then x.10 else x.10) (bif r1 then x.11 else x.11) (bif r1 then x.12 else x.12) (bif r1 then x.13 else x.13) (bif r1 then x.14 else x.14) (bif r1 then x.15 else x.15) (bif r1 then x.16 else x.16) (bif r1 then x.17 else x.17) (bif r1 then x.18 else x.18) (bif r1 then x.19 else x.19) (bif r1 then x.20 else x.20) (bif r1 then x.21 else x.21) (bif r1 then x.22.1 else x.22.1,bif r1 then x.22.2.1 else x.22.2.1,()) (bif r1 then x.23 else x.23),(0:Int),()) =(qS x e,pT e,()))))
 intro r1
 clear_value (hr1:r1=_)
 simp only [Bool.cond_self]
 refine ⟨hs,fun h=>?_,fun h=>⟨fun h2=>⟨hs,?_⟩,fun h2=>?_⟩⟩
 ·have e1:pT e=23:=by simp only [pT,h];rfl
  simp only [qS,e1];rfl
 ·have e1:pT e=0:=by simp only [pT,h];rfl
  simp only [qS,e1,h2];rfl
 ·have e1:pT e=0:=by simp only [pT,h];rfl
  simp only [qS,e1,h2]
  cases r1 with
  | true=>have:x.Target>0:=of_decide_eq_true hr1.symm;simp only [if_pos this];rfl
  | false=>have :¬ x.Target>0:=of_decide_eq_false hr1.symm;simp only [if_neg this];rfl
def Nf:FuncId×Ctr:=(352,af KE qIE q2L tY)
theorem OJ:CtrOK Tryz.prog KE 352 (af KE qIE q2L tY):=by
 refine ar (C:=an [dx,jO] Tryz.f352) (al (.consU gD rfl (.consU oe rfl .nil)) _) mixed (fn:=Tryz.f352) Tryz.func352 (by kernel_rfl) (by kernel_rfl) (by kernel_rfl) (by kernel_rfl) (by kernel_rfl) (by kernel_rfl) (Λ:=fun _ _=>none) ?_ ?_
 ·exact fun _ _ _ _ _ _ _ _ h=>by cases h
 ·rintro ⟨x,e,⟨⟩⟩ hw hn
  exact MI x e (hn _ List.mem_cons_self)
theorem Dv (r:Rules) (x:Innings) (e:Mir.Event) (hs:ah x) (h2:jH e.Side) :(evPat (an [dx] Tryz.f353) (fun _=>none) Tryz.f353 jW q2L (r,x,e,())).sat fun z_=>z_ =(yz (r,x,e,())).2:=by
 refine cast (by kernel_rfl) (?_:let r1:Bool:=decide (x.22.1≥r.12);let r2:Int:=IntKind.i64.wrap (e.2 - (1:Int));let r3:Bool:=decide (x.22.2.1≥r.12);let r4:Bool:=r2 ==(0:Int);let r5:Bool:=r2 ==(1:Int);ah x∧((!x.15)=true→(x,(24:Int),()) =(me r x e.2 e.5,mc r x e.2,()))∧((!x.15)=false→(r4=true→((0:Int)≤(0:Int)∧(0:Int) <(↑(2:Nat):Int))∧(r1=true→(x,(24:Int),()) =(me r x e.2 e.5,mc r x e.2,()))∧(r1=false→((!e.5)=true→(r4=true→((0:Int)≤(0:Int)∧(0:Int) <(↑(2:Nat):Int))∧((0:Int)≤(0:Int)∧(0:Int) <(↑(2:Nat):Int))∧(Innings.mk x.1 x.2 x.3 x.4 x.5 x.6 x.7 x.8 x.9 x.10 x.11 x.12 x.13 x.14 x.15 x.16 x.17 x.18 x.19 x.20 x.21 (IntKind.i64.wrap (x.22.1 +(1:Int)),x.22.2) x.23,(0:Int),()) =(me r x e.2 e.5,mc r x e.2,()))∧(r4=false→(r5=true→((0:Int)≤(1:Int)∧(1:Int) <(↑(2:Nat):Int))∧((0:Int)≤(1:Int)∧(1:Int) <(↑(2:Nat):Int))∧(Innings.mk x.1 x.2 x.3 x.4 x.5 x.6 x.7 x.8 x.9 x.10 x.11 x.12 x.13 x.14 x.15 x.16 x.17 x.18 x.19 x.20 x.21 (x.22.1,IntKind.i64.wrap (x.22.2.1 +(1:Int)),()) x.23,(0:Int),()) =(me r x e.2 e.5,mc r x e.2,()))∧(r5=false→False∧True)))∧((!e.5)=false→(x,(0:Int),()) =(me r x e.2 e.5,mc r x e.2,()))))∧(r4=false→(r5=true→((0:Int)≤(1:Int)∧(1:Int) <(↑(2:Nat):Int))∧(r3=true→(x,(24:Int),()) =(me r x e.2 e.5,mc r x e.2,()))∧(r3=false→((!e.5)=true→(r4=true→((0:Int)≤(0:Int)∧(0:Int) <(↑(2:Nat):Int))∧((0:Int)≤(0:Int)∧(0:Int) <(↑(2:Nat):Int))∧(Innings.mk x.1 x.2 x.3 x.4 x.5 x.6 x.7 x.8 x.9 x.10 x.11 x.12 x.13 x.14 x.15 x.16 x.17 x.18 x.19 x.20 x.21 (IntKind.i64.wrap (x.22.1 +(1:Int)),x.22.2) x.23,(0:Int),()) =(me r x e.2 e.5,mc r x e.2,()))∧(r4=false→(r5=true→((0:Int)≤(1:Int)∧(1:Int) <(↑(2:Nat):Int))∧((0:Int)≤(1:Int)∧(1:Int) <(↑(2:Nat):Int))∧(Innings.mk x.1 x.2 x.3 x.4 x.5 x.6 x.7 x.8 x.9 x.10 x.11 x.12 x.13 x.14 x.15 x.16 x.17 x.18 x.19 x.20 x.21 (x.22.1,IntKind.i64.wrap (x.22.2.1 +(1:Int)),()) x.23,(0:Int),()) =(me r x e.2 e.5,mc r x e.2,()))∧(r5=false→False∧True)))∧((!e.5)=false→(x,(0:Int),()) =(me r x e.2 e.5,mc r x e.2,()))))∧(r5=false→False∧True))))
 intro r1 r2 r3 r4 r5
 clear_value (hr1:r1=_) (hr2:r2=_) (hr3:r3=_) (hr4:r4=_) (hr5:r5=_)
 rcases h2 with hS|hS
 ·have e4:r4=true:=by rw [hr4,hr2,hS];rfl
  have hL:mc r x e.Side=if !x.Fresh||r1 then 24 else 0:=by simp only [mc,JC,hS];rw [hr1];rfl
  have hU:wC x e.Side={ x with Reviews:=(W (x.Reviews.1+1),x.Reviews.2.1,()) }:=by simp only [wC,hS];rfl
  clear hr1 hr2 hr3 hr4 hr5
  cases hf:x.Fresh <;> cases r1 <;> cases hk:e.Yes <;> simp [e4,hs,me,hL,hU,hf,hk]
 ·have e4:r4=false:=by rw [hr4,hr2,hS];rfl
  have e5:r5=true:=by rw [hr5,hr2,hS];rfl
  have hL:mc r x e.Side=if !x.Fresh||r3 then 24 else 0:=by simp only [mc,JC,hS];rw [hr3];rfl
  have hU:wC x e.Side={ x with Reviews:=(x.Reviews.1,W (x.Reviews.2.1+1),()) }:=by simp only [wC,hS];rfl
  clear hr1 hr2 hr3 hr4 hr5
  cases hf:x.Fresh <;> cases r3 <;> cases hk:e.Yes <;> simp [e4,e5,hs,me,hL,hU,hf,hk]
def AA:FuncId×Ctr:=(353,af KE jW q2L yz)
theorem Gu:CtrOK Tryz.prog KE 353 (af KE jW q2L yz):=by
 refine ar (C:=an [dx] Tryz.f353) (al (.consU gD rfl .nil) _) mixed (fn:=Tryz.f353) Tryz.func353 (by kernel_rfl) (by kernel_rfl) (by kernel_rfl) (by kernel_rfl) (by kernel_rfl) (by kernel_rfl) (Λ:=fun _ _=>none) ?_ ?_
 ·exact fun _ _ _ _ _ _ _ _ h=>by cases h
 ·rintro ⟨r,x,e,⟨⟩⟩ hw hn
  exact Dv r x e (hn _ List.mem_cons_self) (hn _ (List.mem_cons_of_mem _ List.mem_cons_self))
theorem Dw (r:Rules) (x:Innings) (e:Mir.Event) (hs:ah x) :(evPat (an [dx,EY] Tryz.f354) (fun _=>none) Tryz.f354 jW q2L (r,x,e,())).sat fun z_=>z_ =(yA (r,x,e,())).2:=by
 refine cast (by kernel_rfl) (?_:let r1:Bool:=decide (e.6 >(0:Int));let r2:Bool:=decide (e.7 >(0:Int));let r3:Int:=bif r1 then x.1 else x.1;let r4:Int:=bif r1 then e.6 else x.2;let r5:Int:=bif r1 then x.4 else x.4;let r6:Int:=bif r1 then x.5 else x.5;let r7:Int:=bif r1 then x.7 else x.7;let r8:Int:=bif r1 then x.8 else x.8;let r9:Int:=bif r1 then x.9 else x.9;let r10:Int:=bif r1 then x.10 else x.10;let r11:Int:=bif r1 then x.12 else x.12;let r12:Bool:=bif r1 then x.15 else x.15;let r13:Bool:=bif r1 then x.17 else x.17;let r14:Int:=bif r1 then x.18 else x.18;let r15:Int:=bif r1 then x.19 else x.19;let r16:Int:=bif r1 then x.20 else x.20;let r17:Int:=bif r1 then x.23 else x.23;let r18:Int:=bif r1 then x.6.1 else x.6.1;let r19:Int:=bif r1 then x.6.2 else x.6.2;let r20:Int:=bif r1 then x.6.3 else x.6.3;let r21:Int:=bif r1 then x.6.4 else x.6.4;let r22:Int:=bif r1 then x.6.5 else x.6.5;let r23:List Bool:=bif r1 then x.21 else x.21;let r24:Int:=bif r1 then x.22.1 else x.22.1;let r25:List Int:=bif r1 then x.11 else x.11;let r26:List Int:=bif r1 then x.13 else x.13;let r27:List Int:=bif r1 then x.14 else x.14;let r28:List Int:=bif r1 then x.16 else x.16;let r29:Int:=bif r1 then x.22.2.1 else x.22.2.1;let r30:Bool:=bif r.4 ==(0:Int) then true else bif e.6 ==(0:Int) then e.7 ==(0:Int) else false;let r31:Bool:=bif r1 then bif x.2 ==(0:Int) then true else decide (e.6≤x.4) else false;let r32:Bool:=bif r2 then bif decide (e.7>r.4) then true else decide (IntKind.i64.wrap (e.7*r.5)<wY r x) else false;ah x∧(r30=true→(x,(25:Int),()) =(pd r x e.6 e.7,tT r x e.6 e.7,()))∧(r30=false→(r31=true→(x,(25:Int),()) =(pd r x e.6 e.7,tT r x e.6 e.7,()))∧(r31=false→(r32=true→(x,(25:Int),()) =(pd r x e.6 e.7,tT r x e.6 e.7,()))∧(r32=false→(Innings.mk (bif r2 then r3 else r3) (bif r2 then r4 else r4) (bif r2 then e.7 else bif r1 then x.3 else x.3) (bif r2 then r5 else r5) (bif r2 then r6 else r6) (Extras.mk (bif r2 then r18 else r18) (bif r2 then r19 else r19) (bif r2 then r20 else r20) (bif r2 then r21 else r21) (bif r2 then r22 else r22)) (bif r2 then r7 else r7) (bif r2 then r8 else r8) (bif r2 then r9 else r9) (bif r2 then r10 else r10) (bif r2 then r25 else r25) (bif r2 then r11 else r11) (bif r2 then r26 else r26) (bif r2 then r27 else r27) (bif r2 then r12 else r12) (bif r2 then r28 else r28) (bif r2 then r13 else r13) (bif r2 then r14 else r14) (bif r2 then r15 else r15) (bif r2 then r16 else r16) (bif r2 then r23 else r23) (bif r2 then r24 else r24,bif r2 then r29 else r29,()) (bif r2 then r17 else r17),(0:Int),()) =(pd r x e.6 e.7,tT r x e.6 e.7,())))))
 intro r1 r2 r3 r4 r5 r6 r7 r8 r9 r10 r11 r12 r13 r14 r15 r16 r17 r18 r19 r20 r21 r22 r23 r24 r25 r26 r27 r28 r29 r30 r31 r32
 clear_value (hr1:r1=_) (hr2:r2=_) (hr3:r3=_) (hr4:r4=_) (hr5:r5=_) (hr6:r6=_) (hr7:r7=_) (hr8:r8=_) (hr9:r9=_) (hr10:r10=_) (hr11:r11=_) (hr12:r12=_) (hr13:r13=_) (hr14:r14=_) (hr15:r15=_) (hr16:r16=_) (hr17:r17=_) (hr18:r18=_) (hr19:r19=_) (hr20:r20=_) (hr21:r21=_) (hr22:r22=_) (hr23:r23=_) (hr24:r24=_) (hr25:r25=_) (hr26:r26=_) (hr27:r27=_) (hr28:r28=_) (hr29:r29=_) (hr30:r30=_) (hr31:r31=_) (hr32:r32=_)
 simp only [Bool.cond_self] at *
 have hb:mf r x e.Runs e.Overs =(r30 ||(r31||r32)):=by grind [mf]
 clear hr30 hr31 hr32
 subst hr3 hr5 hr6 hr7 hr8 hr9 hr10 hr11 hr12 hr13 hr14 hr15 hr16 hr17 hr18 hr19 hr20 hr21 hr22 hr23 hr24 hr25 hr26 hr27 hr28 hr29
 subst hr4
 refine ⟨hs,fun h=>?_,fun h=>⟨fun h2=>?_,fun h2=>⟨fun h3=>?_,fun h3=>?_⟩⟩⟩
 ·have hb':mf r x e.Runs e.Overs=true:=by rw [hb,h];rfl
  simp only [pd,tT,hb'];rfl
 ·have hb':mf r x e.Runs e.Overs=true:=by rw [hb,h,h2];rfl
  simp only [pd,tT,hb'];rfl
 ·have hb':mf r x e.Runs e.Overs=true:=by rw [hb,h,h2,h3];rfl
  simp only [pd,tT,hb'];rfl
 ·have hb':mf r x e.Runs e.Overs=false:=by rw [hb,h,h2,h3];rfl
  simp only [pd,tT,hb',J6,ML]
  cases r1 with
  | true=>
   have h1:e.Runs>0:=of_decide_eq_true hr1.symm
   cases r2 with
   | true=>have h2:e.Overs>0:=of_decide_eq_true hr2.symm;simp only [if_pos h1,if_pos h2];rfl
   | false=>have h2 :¬ e.Overs>0:=of_decide_eq_false hr2.symm;simp only [if_pos h1,if_neg h2];rfl
  | false=>
   have h1 :¬ e.Runs>0:=of_decide_eq_false hr1.symm
   cases r2 with
   | true=>have h2:e.Overs>0:=of_decide_eq_true hr2.symm;simp only [if_neg h1,if_pos h2];rfl
   | false=>have h2 :¬ e.Overs>0:=of_decide_eq_false hr2.symm;simp only [if_neg h1,if_neg h2];rfl
def AB:FuncId×Ctr:=(354,af KE jW q2L yA)
theorem Gv:CtrOK Tryz.prog KE 354 (af KE jW q2L yA):=by
 refine ar (C:=an [dx,EY] Tryz.f354) (al (.consU gD rfl (.consU I9 rfl .nil)) _) mixed (fn:=Tryz.f354) Tryz.func354 (by kernel_rfl) (by kernel_rfl) (by kernel_rfl) (by kernel_rfl) (by kernel_rfl) (by kernel_rfl) (Λ:=fun _ _=>none) ?_ ?_
 ·exact fun _ _ _ _ _ _ _ _ h=>by cases h
 ·rintro ⟨r,x,e,⟨⟩⟩ hw hn
  exact Dw r x e (hn _ List.mem_cons_self)
end Go.Proofs.YtffdpnmioidloaaGreatDoor
namespace Go.Proofs.YtffdpnmioidloaaGreatDoor
open Go Go.Mir
end Go.Proofs.YtffdpnmioidloaaGreatDoor
namespace Go.Proofs.YtffdpnmioidloaaGreatDoor
open Go Go.Mir
theorem sB :∀ (m:Nat) (l:List Int),l.Nodup→(∀ x∈l,1≤x∧x≤(m:Int))→l.length≤m
 | 0,l,_,h=>by
  cases l with
  | nil=>simp
  | cons x l=>have:=h x List.mem_cons_self;omega
 | m+1,l,hn,h=>by
  have ih:=sB m (l.erase ((m+1:Nat):Int)) (hn.erase _) (fun x hx=>by
   have h1:=(hn.mem_erase_iff).1 hx
   have h2:=h x h1.2
   have:=h1.1
   omega)
  by_cases hm :((m+1:Nat):Int)∈l
  ·rw [List.length_erase_of_mem hm] at ih;omega
  ·rw [List.erase_of_not_mem hm] at ih;omega
theorem rT {most:Int} :∀ (l seen:List Int),vk most seen l=true→seen.Nodup→(∀ x∈seen,1≤x∧x≤most)→(seen++l).Nodup∧(∀ x∈seen++l,1≤x∧x≤most)
 | [],seen,_,h1,h2=>by simpa using ⟨h1,h2⟩
 | n::r,seen,h,h1,h2=>by
  unfold vk at h
  split at h
  ·cases h
  ·rename_i hc
   have hc :(!inW n 1 most||fK seen n)=false:=by simpa using hc
   simp only [Bool.or_eq_false_iff,Bool.not_eq_false',inW,Bool.and_eq_true,decide_eq_true_eq] at hc
   obtain ⟨⟨c1,c2⟩,c3⟩:=hc
   have c4:n∉seen:=fun hm=>by
    have:fK seen n=true:=by unfold fK;simpa using hm
    rw [this] at c3;cases c3
   have:=rT r (seen++[n]) h (by
    rw [List.nodup_append]
    refine ⟨h1,by simp,?_⟩
    intro a ha b hb e
    simp only [List.mem_singleton] at hb
    subst hb;subst e;exact c4 ha) (fun x hx=>by
    rcases List.mem_append.1 hx with hx|hx
    ·exact h2 x hx
    ·simp only [List.mem_singleton] at hx;subst hx;exact ⟨c1,c2⟩)
   rwa [List.append_assoc] at this
theorem qj {most:Int} {l:List Int} (h:iy l most=true) :(l.length:Int)≤most∨l=[]:=by
 cases l with
 | nil=>exact .inr rfl
 | cons n r=>
  left
  obtain ⟨h1,h2⟩:=rT (n::r) [] h .nil (fun x hx=>by cases hx)
  simp only [List.nil_append] at h1 h2
  have h3:=h2 n List.mem_cons_self
  have:=sB most.toNat (n::r) h1 (fun x hx=>by have:=h2 x hx;omega)
  omega
theorem fc {r:Rules} (h:aC r=0) :(2≤r.Side∧r.Side≤11)∧(0≤r.Overs∧r.Overs≤90)∧(4≤r.Balls∧r.Balls≤8):=by
 have hr:cr r=true:=by
  cases hr:cr r with
  | true=>rfl
  | false=>
   unfold aC at h
   cases hn:lU r.Name <;> simp [hn,hr] at h
 simp only [cr,aX,Bool.and_eq_true,decide_eq_true_eq] at hr
 omega
end Go.Proofs.YtffdpnmioidloaaGreatDoor
namespace Go.Proofs.YtffdpnmioidloaaGreatDoor
open Go Go.Mir
attribute [local irreducible] Go.Mir.DT.sat Go.Mir.evPat Go.Mir.RT.sat Go.Mir.evFn
end Go.Proofs.YtffdpnmioidloaaGreatDoor
namespace Go.Proofs.YtffdpnmioidloaaGreatDoor
open Go Go.Mir
attribute [local irreducible] Go.Mir.DT.sat Go.Mir.evPat Go.Mir.RT.sat Go.Mir.evFn
abbrev Bo:Pat:=bX [.nm .Rules,.nm .Innings,.nm .Delivery]
def iW (r:Rules) (x:Innings) (d:Delivery):Int:=
 if cS x then 6 else if x.Bowler==0 then 7 else if kK r x != 0 then kK r x else if bL d != 0 then bL d else if bD d x.FreeHit != 0 then bD d x.FreeHit else iP x d
def tZ:Den (tyP Bo)→List Prop×Den (tyP bA):=fun x=>([],(iW x.1 x.2.1 x.2.2.1,()))
def zN (x:Innings) (c:Credit):Innings:={ x with Runs:=W (x.Runs+b7 c),Extras:={ x.Extras with Wides:=W (x.Extras.Wides+c.Wides),NoBalls:=W (x.Extras.NoBalls+c.NoBalls),Byes:=W (x.Extras.Byes+c.Byes),LegByes:=W (x.Extras.LegByes+c.LegByes) } }
def Nn (y:Innings) (o:Bool):Innings:=if o then kf y else y
def nf (r:Rules) (x:Innings) (d:Delivery):Innings:=if d.Typ==1 then { x with FreeHit:=false } else if d.Typ==3&&r.FreeHit then { x with FreeHit:=true } else x
def dZ (r:Rules) (x:Innings) (c:Bool):Innings:=Nn (ao r x c) (ix r x c)
def fM (r:Rules) (x:Innings) (d:Delivery):Innings:=if iW r x d != 0 then x else nf r (dZ r (zN (bC x d) (aB r d)) (aB r d).Counts) d
def fG (x:Innings):Prop:=x.Batters.length≤999999∧x.Bowlers.length≤999999∧x.Before.length≤999999∧x.Bowled.length≤999999∧x.Subs.length≤999999
def Kl:Den (tyP Bo)→List Prop×Den (tyP q2L):=fun x=>([fG x.2.1],(fM x.1 x.2.1 x.2.2.1,iW x.1 x.2.1 x.2.2.1,()))
theorem mi {x:Innings} (h:fG x):ah x:=by
 obtain ⟨h1,h2,h3,h4,h5⟩:=h
 exact ⟨by omega,by omega,by omega,by omega,by omega⟩
theorem wz {x:Innings} (d:Delivery) (h:fG x):fG (bC x d):=by
 have e1 :(bC x d).Batters.length=x.Batters.length:=by
  unfold bC ek cz cm kf cn
  repeat' split
  all_goals simp
 have e2 :(bC x d).Bowlers=x.Bowlers∧(bC x d).Before=x.Before∧(bC x d).Bowled=x.Bowled∧(bC x d).Subs=x.Subs:=by
  unfold bC ek cz cm kf cn
  repeat' split
  all_goals exact ⟨rfl,rfl,rfl,rfl⟩
 obtain ⟨k2,k3,k4,k5⟩:=e2
 unfold fG
 rw [e1,k2,k3,k4,k5]
 exact h
theorem rJ {r:Rules} {x:Innings} (c:Bool) (h:fG x):ah (ao r x c):=by
 have hb :(fo x).length≤x.Bowlers.length+1:=by unfold fo;split <;> simp
 have hu :(rM x).length=x.Bowled.length:=by unfold rM;simp
 have hc :(cw x c).Batters=x.Batters∧(cw x c).Before=x.Before∧(cw x c).Subs=x.Subs∧(cw x c).Bowlers=fo x∧(cw x c).Bowled.length=x.Bowled.length:=by
  unfold cw;cases c
  ·exact ⟨rfl,rfl,rfl,rfl,rfl⟩
  ·exact ⟨rfl,rfl,rfl,rfl,hu⟩
 obtain ⟨c1,c2,c3,c4,c5⟩:=hc
 obtain ⟨h1,h2,h3,h4,h5⟩:=h
 unfold ao
 split
 ·exact ⟨by omega,by omega,by omega,by omega,by omega⟩
 ·split
  ·unfold ah;rw [c1,c2,c3,c4,c5];exact ⟨by omega,by omega,by omega,by omega,by omega⟩
  ·unfold ah A4;simp only;rw [c1,c3,c4,c5];exact ⟨by omega,by simp,by omega,by omega,by omega⟩
theorem BG (r:Rules) (x:Innings) (d:Delivery) :(evPat (an [gB,k40,hZ,k17,k42] Tryz.f375) (find [(rid (aG Tryz.f375 0),dX 5 (an [gB,k40,hZ,k17,k42] Tryz.f375) (fun _=>none) (aG Tryz.f375 0))]) Tryz.f375 Bo bA (r,x,d,())).sat fun z_=>z_ =(tZ (r,x,d,())).2:=by
 refine cast (by kernel_rfl) (?_:let r1:Int:=IntKind.i64.wrap ((0:Int) +(1:Int));let r2:List Int:= [kK r x,bL d,bD d x.17,iP x d];let r3:Int:=IntKind.i64.wrap (r1 +(1:Int));let r4:Int:=(↑r2.length:Int);let r5:Int:=r2.getD (Int.toNat (0:Int)) (dflt (Ty.int IntKind.i64));let r6:Int:=IntKind.i64.wrap (r3 +(1:Int));let r7:Bool:=r5 !=(0:Int);let r8:Int:=r2.getD r1.toNat (dflt (Ty.int IntKind.i64));let r9:Bool:=r8 !=(0:Int);let r10:Int:=r2.getD r3.toNat (dflt (Ty.int IntKind.i64));let r11:Bool:=r10 !=(0:Int);let r12:Int:=r2.getD r6.toNat (dflt (Ty.int IntKind.i64));let r13:Bool:=r12 !=(0:Int);(cS x=true→((6:Int),()) =(iW r x d,()))∧(cS x=false→((x.12 ==(0:Int))=true→((7:Int),()) =(iW r x d,()))∧((x.12 ==(0:Int))=false→True∧((0:Int)≤(0:Int)∧(0:Int)<r4)∧(r7=true→(r5,()) =(iW r x d,()))∧(r7=false→((0:Int)≤r1∧r1<r4)∧(r9=true→(r8,()) =(iW r x d,()))∧(r9=false→((0:Int)≤r3∧r3<r4)∧(r11=true→(r10,()) =(iW r x d,()))∧(r11=false→((0:Int)≤r6∧r6<r4)∧(r13=true→(r12,()) =(iW r x d,()))∧(r13=false→((0:Int),()) =(iW r x d,()))))))))
 intro r1 r2 r3 r4 r5 r6 r7 r8 r9 r10 r11 r12 r13
 clear_value (hr1:r1=_) (hr2:r2=_) (hr3:r3=_) (hr4:r4=_) (hr5:r5=_) (hr6:r6=_) (hr7:r7=_) (hr8:r8=_) (hr9:r9=_) (hr10:r10=_) (hr11:r11=_) (hr12:r12=_) (hr13:r13=_)
 have n1:r1=1:=by rw [hr1];rfl
 have n3:r3=2:=by rw [hr3,n1];rfl
 have n6:r6=3:=by rw [hr6,n3];rfl
 have n4:r4=4:=by rw [hr4,hr2];rfl
 have e5:r5=kK r x:=by rw [hr5,hr2];rfl
 have e8:r8=bL d:=by rw [hr8,hr2,n1];rfl
 have e10:r10=bD d x.FreeHit:=by rw [hr10,hr2,n3];rfl
 have e12:r12=iP x d:=by rw [hr12,hr2,n6];rfl
 clear hr1 hr2 hr3 hr4 hr5 hr6 hr8 hr10 hr12
 subst e5 e8 e10 e12 n1 n3 n4 n6
 unfold iW
 rw [←hr7,←hr9,←hr11]
 cases cS x <;> cases x.Bowler==0 <;> cases r7 <;> cases r9 <;> cases r11 <;> cases h13:r13 <;> simp
 all_goals (rw [h13] at hr13;simp at hr13;exact hr13.symm)
def vN:FuncId×Ctr:=(375,af KE Bo bA tZ)
theorem CV:CtrOK Tryz.prog KE 375 (af KE Bo bA tZ):=by
 refine ar (C:=an [gB,k40,hZ,k17,k42] Tryz.f375) (al (.consU mR rfl (.consU P7 rfl (.consU lZ rfl (.consU P6 rfl (.consU P8 rfl .nil))))) _) mixed (fn:=Tryz.f375) Tryz.func375 (by kernel_rfl) (by kernel_rfl) (by kernel_rfl) (by kernel_rfl) (by kernel_rfl) (by kernel_rfl) (Λ:=fun x=>find [(rid (aG Tryz.f375 0),dX 5 (an [gB,k40,hZ,k17,k42] Tryz.f375) (fun _=>none) (aG Tryz.f375 0))]) ?_ ?_
 ·rintro ⟨r,x,d,⟨⟩⟩ hw hn
  exact LoopsOKp.at (by kernel_rfl) (.cons (by kernel_rfl) (mV 5 (al (.consU mR rfl (.consU P7 rfl (.consU lZ rfl (.consU P6 rfl (.consU P8 rfl .nil))))) _) mixed (Λ:=fun _=>none) (b:=aG Tryz.f375 0) rfl (fun _ _ _ h=>by cases h)) .nil)
 ·rintro ⟨r,x,d,⟨⟩⟩ hw hn
  exact BG r x d
theorem JW (r:Rules) (x:Innings) (d:Delivery) (hs:fG x) :(evPat (an [dx,vN,iJ,Nc,oI,k51,Av] Tryz.f343) (fun _=>none) Tryz.f343 Bo q2L (r,x,d,())).sat fun z_=>z_ =(Kl (r,x,d,())).2:=by
 refine cast (by kernel_rfl) (?_:let r1:Bool:=iW r x d !=(0:Int);let r2:Bool:=bif d.1 ==(3:Int) then r.9 else false;let r3:Innings:=Innings.mk (bC x d).1 (bC x d).2 (bC x d).3 (IntKind.i64.wrap ((bC x d).4+b7 (aB r d))) (bC x d).5 (Extras.mk (IntKind.i64.wrap ((bC x d).6.1 +(aB r d).2)) (IntKind.i64.wrap ((bC x d).6.2 +(aB r d).3)) (IntKind.i64.wrap ((bC x d).6.3 +(aB r d).4)) (IntKind.i64.wrap ((bC x d).6.4 +(aB r d).5)) (bC x d).6.5) (bC x d).7 (bC x d).8 (bC x d).9 (bC x d).10 (bC x d).11 (bC x d).12 (bC x d).13 (bC x d).14 (bC x d).15 (bC x d).16 (bC x d).17 (bC x d).18 (bC x d).19 (bC x d).20 (bC x d).21 (bC x d).22 (bC x d).23;let r4:Bool:=ix r r3 (aB r d).7;let r5:Innings:=ao r r3 (aB r d).7;let r6:Bool:=bif d.1 ==(1:Int) then false else bif r2 then true else r5.17;let r7:Int:=bif d.1 ==(1:Int) then r5.1 else bif r2 then r5.1 else r5.1;let r8:Int:=bif d.1 ==(1:Int) then r5.2 else bif r2 then r5.2 else r5.2;let r9:Int:=bif d.1 ==(1:Int) then r5.3 else bif r2 then r5.3 else r5.3;let r10:Int:=bif d.1 ==(1:Int) then r5.4 else bif r2 then r5.4 else r5.4;let r11:Int:=bif d.1 ==(1:Int) then r5.5 else bif r2 then r5.5 else r5.5;let r12:Int:=bif d.1 ==(1:Int) then r5.7 else bif r2 then r5.7 else r5.7;let r13:Int:=bif d.1 ==(1:Int) then r5.8 else bif r2 then r5.8 else r5.8;let r14:Int:=bif d.1 ==(1:Int) then r5.10 else bif r2 then r5.10 else r5.10;let r15:Int:=bif d.1 ==(1:Int) then r5.9 else bif r2 then r5.9 else r5.9;let r16:Int:=bif d.1 ==(1:Int) then r5.12 else bif r2 then r5.12 else r5.12;let r17:Bool:=bif d.1 ==(1:Int) then r5.15 else bif r2 then r5.15 else r5.15;let r18:Int:=bif d.1 ==(1:Int) then r5.18 else bif r2 then r5.18 else r5.18;let r19:Int:=bif d.1 ==(1:Int) then r5.19 else bif r2 then r5.19 else r5.19;let r20:Int:=bif d.1 ==(1:Int) then r5.20 else bif r2 then r5.20 else r5.20;let r21:Int:=bif d.1 ==(1:Int) then r5.23 else bif r2 then r5.23 else r5.23;let r22:Extras:=Extras.mk (bif d.1 ==(1:Int) then r5.6.1 else bif r2 then r5.6.1 else r5.6.1) (bif d.1 ==(1:Int) then r5.6.2 else bif r2 then r5.6.2 else r5.6.2) (bif d.1 ==(1:Int) then r5.6.3 else bif r2 then r5.6.3 else r5.6.3) (bif d.1 ==(1:Int) then r5.6.4 else bif r2 then r5.6.4 else r5.6.4) (bif d.1 ==(1:Int) then r5.6.5 else bif r2 then r5.6.5 else r5.6.5);(r1=true→ah x∧(x,iW r x d,()) =(fM r x d,iW r x d,()))∧(r1=false→ah x∧ah r3∧(r4=true→ah r5∧(Innings.mk r7 r8 r9 r10 r11 r22 r12 r13 r14 r15 (bif d.1 ==(1:Int) then r5.11 else bif r2 then r5.11 else r5.11) r16 (bif d.1 ==(1:Int) then r5.13 else bif r2 then r5.13 else r5.13) (bif d.1 ==(1:Int) then r5.14 else bif r2 then r5.14 else r5.14) r17 (bif d.1 ==(1:Int) then r5.16 else bif r2 then r5.16 else r5.16) r6 r18 r19 r20 (bif d.1 ==(1:Int) then r5.21 else bif r2 then r5.21 else r5.21) (bif d.1 ==(1:Int) then r5.22.1 else bif r2 then r5.22.1 else r5.22.1,bif d.1 ==(1:Int) then r5.22.2.1 else bif r2 then r5.22.2.1 else r5.22.2.1,()) r21,(0:Int),()) =(fM r x d,iW r x d,()))∧(r4=false→(Innings.mk r7 r8 r9 r10 r11 r22 r12 r13 r15 r14 r5.11 r16 r5.13 r5.14 r17 r5.16 r6 r18 r19 r20 r5.21 (bif d.1 ==(1:Int) then r5.22.1 else bif r2 then r5.22.1 else r5.22.1,bif d.1 ==(1:Int) then r5.22.2.1 else bif r2 then r5.22.2.1 else r5.22.2.1,()) r21,(0:Int),()) =(fM r x d,iW r x d,()))))
 intro r1 r2 r3 r4 r5 r6 r7 r8 r9 r10 r11 r12 r13 r14 r15 r16 r17 r18 r19 r20 r21 r22
 clear_value (hr1:r1=_) (hr2:r2=_) (hr3:r3=_) (hr4:r4=_) (hr5:r5=_) (hr6:r6=_) (hr7:r7=_) (hr8:r8=_) (hr9:r9=_) (hr10:r10=_) (hr11:r11=_) (hr12:r12=_) (hr13:r13=_) (hr14:r14=_) (hr15:r15=_) (hr16:r16=_) (hr17:r17=_) (hr18:r18=_) (hr19:r19=_) (hr20:r20=_) (hr21:r21=_) (hr22:r22=_)
 simp only [Bool.cond_self] at *
 have e3:r3=zN (bC x d) (aB r d):=hr3
 have e22:r22=r5.Extras:=hr22
 have e2:r2 =(d.Typ==3&&r.FreeHit):=by rw [hr2];cases d.Typ==3 <;> rfl
 have s3:fG r3:=by rw [e3];exact wz d hs
 clear hr3 hr22 hr2
 subst hr7 hr8 hr9 hr10 hr11 hr12 hr13 hr14 hr15 hr16 hr17 hr18 hr19 hr20 hr21 e22
 refine ⟨fun h=>⟨mi hs,?_⟩,fun h=>⟨mi hs,mi s3,fun h4=>⟨?_,?_⟩,fun h4=>?_⟩⟩
 ·rw [hr1] at h;simp only [fM,h];rfl
 ·rw [hr5];exact rJ _ s3
 ·have hL:iW r x d=0:=by rw [hr1] at h;simpa using h
  have hp:fM r x d=nf r (dZ r r3 (aB r d).Counts) d:=by simp only [fM,hL,e3];rfl
  have ho:dZ r r3 (aB r d).Counts=kf r5:=by unfold dZ;rw [←hr4,←hr5,h4];rfl
  rw [hp,ho,hL]
  unfold nf
  rw [←e2,hr6]
  cases d.Typ==1 <;> cases r2 <;> rfl
 ·have hL:iW r x d=0:=by rw [hr1] at h;simpa using h
  have hp:fM r x d=nf r (dZ r r3 (aB r d).Counts) d:=by simp only [fM,hL,e3];rfl
  have ho:dZ r r3 (aB r d).Counts=r5:=by unfold dZ;rw [←hr4,←hr5,h4];rfl
  rw [hp,ho,hL]
  unfold nf
  rw [←e2,hr6]
  cases d.Typ==1 <;> cases r2 <;> rfl
def Iz:FuncId×Ctr:=(343,af KE Bo q2L Kl)
theorem LN:CtrOK Tryz.prog KE 343 (af KE Bo q2L Kl):=by
 refine ar (C:=an [dx,vN,iJ,Nc,oI,k51,Av] Tryz.f343) (al (.consU gD rfl (.consU CV rfl (.consU mS rfl (.consU OH rfl (.consU ti rfl (.consU Q6 rfl (.consU Gr rfl .nil))))))) _) mixed (fn:=Tryz.f343) Tryz.func343 (by kernel_rfl) (by kernel_rfl) (by kernel_rfl) (by kernel_rfl) (by kernel_rfl) (by kernel_rfl) (Λ:=fun _ _=>none) ?_ ?_
 ·exact fun _ _ _ _ _ _ _ _ h=>by cases h
 ·rintro ⟨r,x,d,⟨⟩⟩ hw hn
  exact JW r x d (hn _ List.mem_cons_self)
end Go.Proofs.YtffdpnmioidloaaGreatDoor
namespace Go.Proofs.YtffdpnmioidloaaGreatDoor
open Go Go.Mir
def AG:Go.Shelf.Ren:=⟨fun|137=>108|217=>170|266=>214|n=>n,fun|9=>9|5=>5|3=>3|n=>n,fun|n=>n⟩
theorem Le:Go.Proofs.Lays.n137 Tryz.prog AG where
 mixed:=by kernel_rfl
 f137:=Tryz.func108.trans (congrArg some (by kernel_rfl))
 f217:=Tryz.func170.trans (congrArg some (by kernel_rfl))
 f266:=Tryz.func214.trans (congrArg some (by kernel_rfl))
 t3:=Tryz.underlying3
 a3:=Tryz.isAgg3
 z3:=Tryz.sizeOf3
 v3:=Tryz.zeroValue3
 t5:=Tryz.underlying5
 a5:=Tryz.isAgg5
 z5:=Tryz.sizeOf5
 v5:=Tryz.zeroValue5
 t9:=Tryz.underlying9
 a9:=Tryz.isAgg9
 z9:=Tryz.sizeOf9
 v9:=Tryz.zeroValue9
end Go.Proofs.YtffdpnmioidloaaGreatDoor
namespace Go.Proofs.YtffdpnmioidloaaGreatDoor
open Go Go.Mir
attribute [local irreducible] Go.Mir.DT.sat Go.Mir.evPat
def ON:Ty:= .prod .str (.prod (.int .u8) .unit)
def ixW (s:ByteArray) (c:Int):Int:=Lib.indexByte s.data.toList c.toNat.toUInt8
def Kv:Den ON→PRes:=fun x=>⟨[],.int .i64 (ixW x.1 x.2.1),[]⟩
def kz:FuncId×Ctr:=(108,au KE ON Kv)
def b9 (d:Delivery):Int:=
 if decide (d.Typ<1) ||(decide (d.Typ>3) ||(decide (d.Source>3)||decide (d.How>10))) then 3
 else if !inW d.Runs 0 7 ||(!inW d.Short 0 d.Runs ||(d.Boundary != 0&&(d.Boundary != 4&&d.Boundary != 6) ||(!inW d.Victim 0 2 ||(!inW d.Fielder 0 11 ||(!inW d.Second 0 11||!inW d.Sector 0 8))))) then 2 else 0
def Kd:Den (tyP qD)→List Prop×Den (tyP bA):=fun x=>([],(b9 x.1,()))
def formsW:List event_form:= [⟨⟨#[84,79,83,83]⟩,⟨#[115,121]⟩,⟨#[66,65,84]⟩,⟨#[70,73,69,76,68]⟩⟩,⟨⟨#[79,80,69,78]⟩,⟨#[112,111]⟩,⟨#[]⟩,⟨#[]⟩⟩,⟨⟨#[66,79,87,76]⟩,⟨#[112]⟩,⟨#[]⟩,⟨#[]⟩⟩,⟨⟨#[66,65,76,76]⟩,⟨#[98]⟩,⟨#[]⟩,⟨#[]⟩⟩,⟨⟨#[69,78,84,69,82]⟩,⟨#[112]⟩,⟨#[]⟩,⟨#[]⟩⟩,⟨⟨#[82,69,84,73,82,69]⟩,⟨#[112,121]⟩,⟨#[72,85,82,84]⟩,⟨#[79,85,84]⟩⟩,⟨⟨#[70,73,69,76,68]⟩,⟨#[114]⟩,⟨#[]⟩,⟨#[]⟩⟩,⟨⟨#[75,69,69,80,69,82]⟩,⟨#[112]⟩,⟨#[]⟩,⟨#[]⟩⟩,⟨⟨#[83,85,66]⟩,⟨#[112,121]⟩,⟨#[79,78]⟩,⟨#[79,70,70]⟩⟩,⟨⟨#[78,69,87,66,65,76,76]⟩,⟨#[]⟩,⟨#[]⟩,⟨#[]⟩⟩,⟨⟨#[68,69,67,76,65,82,69]⟩,⟨#[115]⟩,⟨#[]⟩,⟨#[]⟩⟩,⟨⟨#[70,79,76,76,79,87]⟩,⟨#[115,121]⟩,⟨#[89,69,83]⟩,⟨#[78,79]⟩⟩,⟨⟨#[80,69,78,65,76,84,89]⟩,⟨#[115,114]⟩,⟨#[]⟩,⟨#[]⟩⟩,⟨⟨#[82,69,86,73,69,87]⟩,⟨#[115,121]⟩,⟨#[75,69,80,84]⟩,⟨#[76,79,83,84]⟩⟩,⟨⟨#[82,69,86,73,83,69]⟩,⟨#[114,118]⟩,⟨#[]⟩,⟨#[]⟩⟩,⟨⟨#[83,84,79,80]⟩,⟨#[]⟩,⟨#[]⟩,⟨#[]⟩⟩]
def ED (k:Int):ByteArray:=(formsW.getD (k - 1).toNat event_form.zero).fields
def loW (k:Int):Int:=if k==13 then 1 else 0
def hiW (k:Int):Int:=if k==7 then 11 else if k==13 then 99 else 100000
abbrev qKF:Pat:=bX [U8,U8]
def cu (k c:Int):Bool:=decide (ixW (ED k) c≥0) ||(k==5&&c==121)
def aZ (k:Int):Prop:=1≤k∧k≤16
def Ks:Den (tyP qKF)→List Prop×Den (tyP aF):=fun x=>([aZ x.1],(cu x.1 x.2.1,()))
abbrev qII:Pat:=bX [I,I]
def yl:Den (tyP qH)→List Prop×Den (tyP qII):=fun x=>([],(loW x.1,hiW x.1,()))
abbrev Mw:Pat:=bX [.slice (.nm .event_form)]
def DQ:Den (tyP (bX []))→List Prop×Den (tyP Mw):=fun _=>([],(formsW,()))
def wJ (k:Int):Bool:=k==1||k==12||k==14||k==11||k==13
def ru (k:Int):Bool:=k==2||k==3||k==8||k==5||k==6||k==9
def x8 (k:Int):Bool:=k==2
def Pt (k:Int):Bool:=k==1||k==12||k==14||k==5||k==6||k==9
def FE (k:Int):Bool:=k==7||k==13||k==15
def ya (k:Int):Bool:=k==15
def rI (k:Int):Bool:=k==4
def KT (d:Delivery):Bool:=d.Typ==0&&(d.Source==0&&(d.Runs==0&&(d.Short==0&&(d.Boundary==0&&(d.Crossed==false&&(d.How==0&&(d.Victim==0&&(d.Fielder==0&&(d.Second==0&&(d.Sub==false&&d.Sector==0))))))))))
def bB (e:Mir.Event):Int:=
 if !inW e.Kind 1 16 then 3
 else if !wJ e.Kind&&e.Side != 0||!ru e.Kind&&e.Player != 0||!x8 e.Kind&&e.Other != 0||!Pt e.Kind&&e.Yes||!FE e.Kind&&e.Runs != 0||!ya e.Kind&&e.Overs != 0||!rI e.Kind&&!KT e.Ball then 1
 else if wJ e.Kind&&!inW e.Side 1 2||ru e.Kind&&!inW e.Player 1 11||x8 e.Kind&&!inW e.Other 1 11||FE e.Kind&&!inW e.Runs (loW e.Kind) (hiW e.Kind)||ya e.Kind&&!inW e.Overs 0 90 then 2
 else if rI e.Kind then b9 e.Ball else 0
abbrev qE:Pat:=bX [.nm .Event]
def sEv:Den (tyP qE)→List Prop×Den (tyP bA):=fun x=>([],(bB x.1,()))
theorem Nb :∀ (l:List UInt8) (c:UInt8),Lib.indexByte l c≤l.length
 | [],c=>by unfold Lib.indexByte;simp
 | b::l,c=>by
  have:=Nb l c
  unfold Lib.indexByte
  simp only [List.length_cons]
  split
  ·omega
  ·split <;> omega
theorem qw:CtrOK Tryz.prog KE 108 (au KE ON Kv):=by
 refine HI Tryz.func108 (by kernel_rfl) (by kernel_rfl) (fun _=>⟨rfl,rfl⟩) (fun x av w E hw _ hav=>?_) (fun _ _=>rfl)
 obtain ⟨s,c,⟨⟩⟩:=x
 obtain ⟨a,r,rfl,h1,h2⟩:=oq hav
 obtain ⟨b,r2,rfl,h3,h4⟩:=oq h2
 have h5:r2=[]:=by cases r2 with|nil=>rfl|cons=>simp [bo,ae] at h4
 subst h5
 simp only [fk,aa] at h1 h3
 obtain ⟨rfl,hs⟩:=h1
 obtain ⟨rfl,hc⟩:=h3
 refine (Any.strings_IndexByte Le s c w).mono fun e w' ⟨h6,h7⟩=>⟨_,h6,h7,fun E'=>?_⟩
 refine ie ?_
 have hge:=Lib.indexByte_ge s.data.toList c.toNat.toUInt8
 have hle:=Nb s.data.toList c.toNat.toUInt8
 have hl:s.data.toList.length≤aO:=by rw [Array.length_toList];exact hs
 unfold aO at hl
 have e1:IntKind.i64.min = -9223372036854775808:=by decide
 have e2:IntKind.i64.max=9223372036854775807:=by decide
 unfold ok
 rw [e1,e2]
 show _≤ixW s c∧ixW s c≤_
 unfold ixW
 omega
theorem BL (n:Int) (lo:Int) (hi:Int) :(evPat (an [] Tryz.f201) (fun _=>none) Tryz.f201 q3 aF (n,lo,hi,())).sat fun z_=>z_ =(sIn (n,lo,hi,())).2:=by
 refine cast (by kernel_rfl) (?_ :(bif decide (n≥lo) then decide (n≤hi) else false,()) =(inW n lo hi,()))
 grind [inW]
def vR:FuncId×Ctr:=(201,af KE q3 aF sIn)
theorem C0:CtrOK Tryz.prog KE 201 (af KE q3 aF sIn):=by
 refine ar (C:=an [] Tryz.f201) (al (CtrsOK.nil) _) mixed (fn:=Tryz.f201) Tryz.func201 (by kernel_rfl) (by kernel_rfl) (by kernel_rfl) (by kernel_rfl) (by kernel_rfl) (by kernel_rfl) (Λ:=fun _ _=>none) ?_ ?_
 ·exact fun _ _ _ _ _ _ _ _ h=>by cases h
 ·rintro ⟨n,lo,hi,⟨⟩⟩ hw hn
  exact BL n lo hi
theorem Bx (n:Int) (lo:Int) (hi:Int) :(evPat (an [] Tryz.f276) (fun _=>none) Tryz.f276 q3 aF (n,lo,hi,())).sat fun z_=>z_ =(sIn (n,lo,hi,())).2:=by
 refine cast (by kernel_rfl) (?_ :(bif decide (n≥lo) then decide (n≤hi) else false,()) =(inW n lo hi,()))
 grind [inW]
def iu:FuncId×Ctr:=(276,af KE q3 aF sIn)
theorem od:CtrOK Tryz.prog KE 276 (af KE q3 aF sIn):=by
 refine ar (C:=an [] Tryz.f276) (al (CtrsOK.nil) _) mixed (fn:=Tryz.f276) Tryz.func276 (by kernel_rfl) (by kernel_rfl) (by kernel_rfl) (by kernel_rfl) (by kernel_rfl) (by kernel_rfl) (Λ:=fun _ _=>none) ?_ ?_
 ·exact fun _ _ _ _ _ _ _ _ h=>by cases h
 ·rintro ⟨n,lo,hi,⟨⟩⟩ hw hn
  exact Bx n lo hi
theorem G8 (d:Delivery) :(evPat (an [vR] Tryz.f150) (fun _=>none) Tryz.f150 qD bA (d,())).sat fun z_=>z_ =(Kd (d,())).2:=by
 refine cast (by kernel_rfl) (?_:let r1:Bool:=bif !inW d.8 (0:Int) (2:Int) then true else bif !inW d.9 (0:Int) (11:Int) then true else bif !inW d.10 (0:Int) (11:Int) then true else !inW d.12 (0:Int) (8:Int);let r2:Bool:=bif decide (d.1 <(1:Int)) then true else bif decide (d.1 >(3:Int)) then true else bif decide (d.2 >(3:Int)) then true else decide (d.7 >(10:Int));let r3:Bool:=bif !inW d.3 (0:Int) (7:Int) then true else bif !inW d.4 (0:Int) d.3 then true else bif d.5 !=(0:Int) then bif d.5 !=(4:Int) then bif d.5 !=(6:Int) then true else r1 else r1 else r1;(r2=true→((3:Int),()) =(b9 d,()))∧(r2=false→(r3=true→((2:Int),()) =(b9 d,()))∧(r3=false→((0:Int),()) =(b9 d,()))))
 intro r1 r2 r3
 clear_value (hr1:r1=_) (hr2:r2=_) (hr3:r3=_)
 repeat' (first|refine And.intro ?_ ?_|intro h)
 all_goals grind (splits:=40) [b9]
def jq:FuncId×Ctr:=(150,af KE qD bA Kd)
theorem o9:CtrOK Tryz.prog KE 150 (af KE qD bA Kd):=by
 refine ar (C:=an [vR] Tryz.f150) (al (.consU C0 rfl .nil) _) mixed (fn:=Tryz.f150) Tryz.func150 (by kernel_rfl) (by kernel_rfl) (by kernel_rfl) (by kernel_rfl) (by kernel_rfl) (by kernel_rfl) (Λ:=fun _ _=>none) ?_ ?_
 ·exact fun _ _ _ _ _ _ _ _ h=>by cases h
 ·rintro ⟨d,⟨⟩⟩ hw hn
  exact G8 d
theorem GS :(evPat (an [] Tryz.f302) (fun _=>none) Tryz.f302 (bX []) Mw ()).sat fun z_=>z_ =(DQ ()).2:=by
 refine cast (by kernel_rfl) (?_ :([event_form.mk (ByteArray.mk #[84,79,83,83]) (ByteArray.mk #[115,121]) (ByteArray.mk #[66,65,84]) (ByteArray.mk #[70,73,69,76,68]),event_form.mk (ByteArray.mk #[79,80,69,78]) (ByteArray.mk #[112,111]) (ByteArray.mk #[]) (ByteArray.mk #[]),event_form.mk (ByteArray.mk #[66,79,87,76]) (ByteArray.mk #[112]) (ByteArray.mk #[]) (ByteArray.mk #[]),event_form.mk (ByteArray.mk #[66,65,76,76]) (ByteArray.mk #[98]) (ByteArray.mk #[]) (ByteArray.mk #[]),event_form.mk (ByteArray.mk #[69,78,84,69,82]) (ByteArray.mk #[112]) (ByteArray.mk #[]) (ByteArray.mk #[]),event_form.mk (ByteArray.mk #[82,69,84,73,82,69]) (ByteArray.mk #[112,121]) (ByteArray.mk #[72,85,82,84]) (ByteArray.mk #[79,85,84]),event_form.mk (ByteArray.mk #[70,73,69,76,68]) (ByteArray.mk #[114]) (ByteArray.mk #[]) (ByteArray.mk #[]),event_form.mk (ByteArray.mk #[75,69,69,80,69,82]) (ByteArray.mk #[112]) (ByteArray.mk #[]) (ByteArray.mk #[]),event_form.mk (ByteArray.mk #[83,85,66]) (ByteArray.mk #[112,121]) (ByteArray.mk #[79,78]) (ByteArray.mk #[79,70,70]),event_form.mk (ByteArray.mk #[78,69,87,66,65,76,76]) (ByteArray.mk #[]) (ByteArray.mk #[]) (ByteArray.mk #[]),event_form.mk (ByteArray.mk #[68,69,67,76,65,82,69]) (ByteArray.mk #[115]) (ByteArray.mk #[]) (ByteArray.mk #[]),event_form.mk (ByteArray.mk #[70,79,76,76,79,87]) (ByteArray.mk #[115,121]) (ByteArray.mk #[89,69,83]) (ByteArray.mk #[78,79]),event_form.mk (ByteArray.mk #[80,69,78,65,76,84,89]) (ByteArray.mk #[115,114]) (ByteArray.mk #[]) (ByteArray.mk #[]),event_form.mk (ByteArray.mk #[82,69,86,73,69,87]) (ByteArray.mk #[115,121]) (ByteArray.mk #[75,69,80,84]) (ByteArray.mk #[76,79,83,84]),event_form.mk (ByteArray.mk #[82,69,86,73,83,69]) (ByteArray.mk #[114,118]) (ByteArray.mk #[]) (ByteArray.mk #[]),event_form.mk (ByteArray.mk #[83,84,79,80]) (ByteArray.mk #[]) (ByteArray.mk #[]) (ByteArray.mk #[])],()) =(formsW,()))
 rfl
def EW:FuncId×Ctr:=(302,af KE (bX []) Mw DQ)
theorem I8:CtrOK Tryz.prog KE 302 (af KE (bX []) Mw DQ):=by
 refine ar (C:=an [] Tryz.f302) (al (CtrsOK.nil) _) mixed (fn:=Tryz.f302) Tryz.func302 (by kernel_rfl) (by kernel_rfl) (by kernel_rfl) (by kernel_rfl) (by kernel_rfl) (by kernel_rfl) (Λ:=fun _ _=>none) ?_ ?_
 ·exact fun _ _ _ _ _ _ _ _ h=>by cases h
 ·rintro ⟨⟩ hw hn
  exact GS
theorem Ds (k:Int) :(evPat (an [] Tryz.f275) (fun _=>none) Tryz.f275 qH qII (k,())).sat fun z_=>z_ =(yl (k,())).2:=by
 refine cast (by kernel_rfl) (?_ :((k ==(7:Int))=true→((0:Int),(11:Int),()) =(loW k,hiW k,()))∧((k ==(7:Int))=false→((k ==(13:Int))=true→((1:Int),(99:Int),()) =(loW k,hiW k,()))∧((k ==(13:Int))=false→((0:Int),(100000:Int),()) =(loW k,hiW k,()))))
 grind [loW,hiW]
def jN:FuncId×Ctr:=(275,af KE qH qII yl)
theorem pR:CtrOK Tryz.prog KE 275 (af KE qH qII yl):=by
 refine ar (C:=an [] Tryz.f275) (al (CtrsOK.nil) _) mixed (fn:=Tryz.f275) Tryz.func275 (by kernel_rfl) (by kernel_rfl) (by kernel_rfl) (by kernel_rfl) (by kernel_rfl) (by kernel_rfl) (Λ:=fun _ _=>none) ?_ ?_
 ·exact fun _ _ _ _ _ _ _ _ h=>by cases h
 ·rintro ⟨k,⟨⟩⟩ hw hn
  exact Ds k
theorem JV (k:Int) (c:Int) (hk:aZ k) :(evPat (an [EW,kz] Tryz.f277) (fun _=>none) Tryz.f277 qKF aF (k,c,())).sat fun z_=>z_ =(Ks (k,c,())).2:=by
 refine cast (by kernel_rfl) (?_:let r1:Int:=IntKind.u8.wrap (k - (1:Int));let r2:Int:=ixW (formsW.getD r1.toNat (dflt (Ty.nm Nm.event_form))).2 c;let r3:Bool:=decide (r2≥(0:Int));(((0:Int)≤r1∧r1 <(↑formsW.length:Int))∧(r3=true→True)∧(r3=false→((k ==(5:Int))=true→True)∧((k ==(5:Int))=false→True)))∧(true=true→(bif r3 then true else bif k ==(5:Int) then c ==(121:Int) else false,()) =(cu k c,())))
 intro r1 r2 r3
 clear_value (hr1:r1=_) (hr2:r2=_) (hr3:r3=_)
 obtain ⟨h1,h2⟩:=hk
 have hw:IntKind.u8.wrap (k - 1)=k - 1:=by
  simp only [IntKind.wrap,IntKind.bits,IntKind.signed]
  simp
  omega
 have hl:formsW.length=16:=rfl
 simp only [hw] at *
 have hd:dflt (Ty.nm Nm.event_form)=event_form.zero:=rfl
 refine ⟨⟨⟨by omega,by rw [hl];omega⟩,fun _=>trivial,fun _=>⟨fun _=>trivial,fun _=>trivial⟩⟩,fun _=>?_⟩
 simp only [cu,ED,hr1,hr2,hr3,hd]
 grind
def pE:FuncId×Ctr:=(277,af KE qKF aF Ks)
theorem xY:CtrOK Tryz.prog KE 277 (af KE qKF aF Ks):=by
 refine ar (C:=an [EW,kz] Tryz.f277) (al (.consU I8 rfl (.consU qw rfl .nil)) _) mixed (fn:=Tryz.f277) Tryz.func277 (by kernel_rfl) (by kernel_rfl) (by kernel_rfl) (by kernel_rfl) (by kernel_rfl) (by kernel_rfl) (Λ:=fun _ _=>none) ?_ ?_
 ·exact fun _ _ _ _ _ _ _ _ h=>by cases h
 ·rintro ⟨k,c,⟨⟩⟩ hw hn
  exact JV k c (hn _ List.mem_cons_self)
theorem Oa {k:Int} {p:Int→Prop} (h :∀ n:Fin 16,p ((n.val:Int)+1)) (h1:1≤k) (h2:k≤16):p k:=by
 have:=h ⟨(k - 1).toNat,by omega⟩
 have e :((k - 1).toNat:Int)+1=k:=by omega
 exact (congrArg p e).mp this
theorem KO {k:Int} (h1:1≤k) (h2:k≤16):cu k 115=wJ k∧cu k 112=ru k∧cu k 111=x8 k∧cu k 121=Pt k∧cu k 114=FE k∧cu k 118=ya k∧cu k 98=rI k:=
 Oa (p:=fun k=>cu k 115=wJ k∧cu k 112=ru k∧cu k 111=x8 k∧cu k 121=Pt k∧cu k 114=FE k∧cu k 118=ya k∧cu k 98=rI k) (by decide +kernel) h1 h2
theorem GR (e:Mir.Event) :(evPat (an [jN,iu,pE,jq] Tryz.f234) (find [(rid (aG Tryz.f234 0),dX 8 (an [jN,iu,pE,jq] Tryz.f234) (fun _=>none) (aG Tryz.f234 0)),(rid (aG Tryz.f234 1),dX 8 (an [jN,iu,pE,jq] Tryz.f234) (fun _=>none) (aG Tryz.f234 1))]) Tryz.f234 qE bA (e,())).sat fun z_=>z_ =(sEv (e,())).2:=by
 refine cast (by kernel_rfl) (?_:let r1:Bool:=!inW e.2 (1:Int) (2:Int);let r2:Bool:=!inW e.3 (1:Int) (11:Int);let r3:Bool:=!inW e.4 (1:Int) (11:Int);let r4:Bool:=!inW e.7 (0:Int) (90:Int);let r5:Bool:=bif !!e.5 then !cu e.1 (121:Int) else false;let r6:Int:=IntKind.i64.wrap ((0:Int) +(1:Int));let r7:Bool:=bif !inW e.6 (loW e.1) (hiW e.1) then cu e.1 (114:Int) else false;let r8:Bool:=bif !e.2 ==(0:Int) then !cu e.1 (115:Int) else false;let r9:Bool:=bif !e.3 ==(0:Int) then !cu e.1 (112:Int) else false;let r10:Bool:=bif !e.4 ==(0:Int) then !cu e.1 (111:Int) else false;let r11:Bool:=bif !e.6 ==(0:Int) then !cu e.1 (114:Int) else false;let r12:Bool:=bif !e.7 ==(0:Int) then !cu e.1 (118:Int) else false;let r13:Bool:=bif r1 then cu e.1 (115:Int) else false;let r14:Bool:=bif r2 then cu e.1 (112:Int) else false;let r15:Bool:=bif r3 then cu e.1 (111:Int) else false;let r16:Bool:=bif r4 then cu e.1 (118:Int) else false;let r17:Int:=IntKind.i64.wrap (r6 +(1:Int));let r18:Bool:=bif decide (e.1 <(1:Int)) then true else decide (e.1 >(16:Int));let r19:Int:=IntKind.i64.wrap (r17 +(1:Int));let r20:Int:=IntKind.i64.wrap (r19 +(1:Int));let r21:Int:=IntKind.i64.wrap (r20 +(1:Int));let r22:Int:=IntKind.i64.wrap (r21 +(1:Int));let r23:Bool:=e.8.1 ==(0:Int)&&(e.8.2 ==(0:Int)&&(e.8.3 ==(0:Int)&&(e.8.4 ==(0:Int)&&(e.8.5 ==(0:Int)&&(e.8.6==false&&(e.8.7 ==(0:Int)&&(e.8.8 ==(0:Int)&&(e.8.9 ==(0:Int)&&(e.8.10 ==(0:Int)&&(e.8.11==false&&(e.8.12 ==(0:Int)&&true)))))))))));let r24:Bool:=!r23;let r25:Bool:=bif r24 then !cu e.1 (98:Int) else false;let r26:Int:=(↑[((115:Int),e.2 ==(0:Int),inW e.2 (1:Int) (2:Int),()),((112:Int),e.3 ==(0:Int),inW e.3 (1:Int) (11:Int),()),((111:Int),e.4 ==(0:Int),inW e.4 (1:Int) (11:Int),()),((121:Int),!e.5,true,()),((114:Int),e.6 ==(0:Int),inW e.6 (loW e.1) (hiW e.1),()),((118:Int),e.7 ==(0:Int),inW e.7 (0:Int) (90:Int),()),((98:Int),r23,true,())].length:Int);(r18=true→((3:Int),()) =(bB e,()))∧(r18=false→True∧((0:Int)≤(0:Int)∧(0:Int)<r26)∧(((!e.2 ==(0:Int))=true→((1:Int)≤e.1∧e.1≤(16:Int))∧True)∧((!e.2 ==(0:Int))=false→True))∧(true=true→(r8=true→((1:Int),()) =(bB e,()))∧(r8=false→((0:Int)≤r6∧r6<r26)∧(((!e.3 ==(0:Int))=true→((1:Int)≤e.1∧e.1≤(16:Int))∧True)∧((!e.3 ==(0:Int))=false→True))∧(true=true→(r9=true→((1:Int),()) =(bB e,()))∧(r9=false→((0:Int)≤r17∧r17<r26)∧(((!e.4 ==(0:Int))=true→((1:Int)≤e.1∧e.1≤(16:Int))∧True)∧((!e.4 ==(0:Int))=false→True))∧(true=true→(r10=true→((1:Int),()) =(bB e,()))∧(r10=false→((0:Int)≤r19∧r19<r26)∧(((!!e.5)=true→((1:Int)≤e.1∧e.1≤(16:Int))∧True)∧((!!e.5)=false→True))∧(true=true→(r5=true→((1:Int),()) =(bB e,()))∧(r5=false→((0:Int)≤r20∧r20<r26)∧(((!e.6 ==(0:Int))=true→((1:Int)≤e.1∧e.1≤(16:Int))∧True)∧((!e.6 ==(0:Int))=false→True))∧(true=true→(r11=true→((1:Int),()) =(bB e,()))∧(r11=false→((0:Int)≤r21∧r21<r26)∧(((!e.7 ==(0:Int))=true→((1:Int)≤e.1∧e.1≤(16:Int))∧True)∧((!e.7 ==(0:Int))=false→True))∧(true=true→(r12=true→((1:Int),()) =(bB e,()))∧(r12=false→((0:Int)≤r22∧r22<r26)∧((r24=true→((1:Int)≤e.1∧e.1≤(16:Int))∧True)∧(r24=false→True))∧(true=true→(r25=true→((1:Int),()) =(bB e,()))∧(r25=false→True∧((0:Int)≤(0:Int)∧(0:Int)<r26)∧((r1=true→((1:Int)≤e.1∧e.1≤(16:Int))∧True)∧(r1=false→True))∧(true=true→(r13=true→((2:Int),()) =(bB e,()))∧(r13=false→((0:Int)≤r6∧r6<r26)∧((r2=true→((1:Int)≤e.1∧e.1≤(16:Int))∧True)∧(r2=false→True))∧(true=true→(r14=true→((2:Int),()) =(bB e,()))∧(r14=false→((0:Int)≤r17∧r17<r26)∧((r3=true→((1:Int)≤e.1∧e.1≤(16:Int))∧True)∧(r3=false→True))∧(true=true→(r15=true→((2:Int),()) =(bB e,()))∧(r15=false→((0:Int)≤r19∧r19<r26)∧(((!true)=true→((1:Int)≤e.1∧e.1≤(16:Int))∧True)∧((!true)=false→True))∧(true=true→((bif !true then cu e.1 (121:Int) else false)=true→((2:Int),()) =(bB e,()))∧((bif !true then cu e.1 (121:Int) else false)=false→((0:Int)≤r20∧r20<r26)∧(((!inW e.6 (loW e.1) (hiW e.1))=true→((1:Int)≤e.1∧e.1≤(16:Int))∧True)∧((!inW e.6 (loW e.1) (hiW e.1))=false→True))∧(true=true→(r7=true→((2:Int),()) =(bB e,()))∧(r7=false→((0:Int)≤r21∧r21<r26)∧((r4=true→((1:Int)≤e.1∧e.1≤(16:Int))∧True)∧(r4=false→True))∧(true=true→(r16=true→((2:Int),()) =(bB e,()))∧(r16=false→((0:Int)≤r22∧r22<r26)∧(((!true)=true→((1:Int)≤e.1∧e.1≤(16:Int))∧True)∧((!true)=false→True))∧(true=true→((bif !true then cu e.1 (98:Int) else false)=true→((2:Int),()) =(bB e,()))∧((bif !true then cu e.1 (98:Int) else false)=false→((e.1 ==(4:Int))=true→(b9 e.8,()) =(bB e,()))∧((e.1 ==(4:Int))=false→((0:Int),()) =(bB e,()))))))))))))))))))))))))))))))))
 intro r1 r2 r3 r4 r5 r6 r7 r8 r9 r10 r11 r12 r13 r14 r15 r16 r17 r18 r19 r20 r21 r22 r23 r24 r25 r26
 clear_value (hr1:r1=_) (hr2:r2=_) (hr3:r3=_) (hr4:r4=_) (hr5:r5=_) (hr6:r6=_) (hr7:r7=_) (hr8:r8=_) (hr9:r9=_) (hr10:r10=_) (hr11:r11=_) (hr12:r12=_) (hr13:r13=_) (hr14:r14=_) (hr15:r15=_) (hr16:r16=_) (hr17:r17=_) (hr18:r18=_) (hr19:r19=_) (hr20:r20=_) (hr21:r21=_) (hr22:r22=_) (hr23:r23=_) (hr24:r24=_) (hr25:r25=_) (hr26:r26=_)
 have h6:r6=1:=hr6
 have h17:r17=2:=by rw [hr17,h6];rfl
 have h19:r19=3:=by rw [hr19,h17];rfl
 have h20:r20=4:=by rw [hr20,h19];rfl
 have h21:r21=5:=by rw [hr21,h20];rfl
 have h22:r22=6:=by rw [hr22,h21];rfl
 have h26:r26=7:=hr26
 clear hr6 hr17 hr19 hr20 hr21 hr22 hr26
 have hz:r23=KT e.8:=by rw [hr23];simp only [KT,Bool.and_true]
 refine ⟨fun h=>?_,fun h=>?_⟩
 ·have:inW e.1 1 16=false:=by grind [inW]
  simp [bB,this]
 ·have hk:1≤e.1∧e.1≤16:=by grind
  obtain ⟨u1,u2,u3,u4,u5,u6,u7⟩:=KO hk.1 hk.2
  simp only [u1,u2,u3,u4,u5,u6,u7] at hr5 hr7 hr8 hr9 hr10 hr11 hr12 hr13 hr14 hr15 hr16 hr25 ⊢
  have hi:inW e.1 1 16=true:=by grind [inW]
  have e0:bB e=if r8||r9||r10||r5||r11||r12||r25 then 1 else if r13||r14||r15||r7||r16 then 2 else if rI e.1 then b9 e.8 else 0:=by
   have t1 :∀ a b:Bool,(bif !a then !b else false) =(!b&&!a):=by decide
   have t2 :∀ a b:Bool,(bif a then b else false) =(b&&a):=by decide
   rw [t1] at hr8 hr9 hr10 hr11 hr12 hr5
   rw [hr24,t1,hz] at hr25
   rw [t2] at hr13 hr14 hr15 hr7 hr16
   rw [hr1] at hr13
   rw [hr2] at hr14
   rw [hr3] at hr15
   rw [hr4] at hr16
   rw [Bool.not_not] at hr5
   rw [hr8,hr9,hr10,hr5,hr11,hr12,hr25,hr13,hr14,hr15,hr7,hr16]
   unfold bB
   rw [hi]
   rfl
  clear hr1 hr2 hr3 hr4 hr5 hr7 hr8 hr9 hr10 hr11 hr12 hr13 hr14 hr15 hr16 hr18 hr23 hr24 hr25
  rw [e0]
  simp only [h6,h17,h19,h20,h21,h22,h26]
  clear u1 u2 u3 u4 u5 u6 u7 e0 hz
  repeat' (first|refine And.intro ?_ ?_|intro _)
  all_goals first|omega |(simp_all [rI];done)
def rj:FuncId×Ctr:=(234,af KE qE bA sEv)
theorem AU:CtrOK Tryz.prog KE 234 (af KE qE bA sEv):=by
 refine ar (C:=an [jN,iu,pE,jq] Tryz.f234) (al (.consU pR rfl (.consU od rfl (.consU xY rfl (.consU o9 rfl .nil)))) _) mixed (fn:=Tryz.f234) Tryz.func234 (by kernel_rfl) (by kernel_rfl) (by kernel_rfl) (by kernel_rfl) (by kernel_rfl) (by kernel_rfl) (Λ:=fun x=>find [(rid (aG Tryz.f234 0),dX 8 (an [jN,iu,pE,jq] Tryz.f234) (fun _=>none) (aG Tryz.f234 0)),(rid (aG Tryz.f234 1),dX 8 (an [jN,iu,pE,jq] Tryz.f234) (fun _=>none) (aG Tryz.f234 1))]) ?_ ?_
 ·rintro ⟨e,⟨⟩⟩ hw hn
  exact LoopsOKp.at (by kernel_rfl) (.cons (by kernel_rfl) (mV 8 (al (.consU pR rfl (.consU od rfl (.consU xY rfl (.consU o9 rfl .nil)))) _) mixed (Λ:=fun _=>none) (b:=aG Tryz.f234 0) rfl (fun _ _ _ h=>by cases h)) (.cons (by kernel_rfl) (mV 8 (al (.consU pR rfl (.consU od rfl (.consU xY rfl (.consU o9 rfl .nil)))) _) mixed (Λ:=fun _=>none) (b:=aG Tryz.f234 1) rfl (fun _ _ _ h=>by cases h)) .nil))
 ·rintro ⟨e,⟨⟩⟩ hw hn
  exact GR e
end Go.Proofs.YtffdpnmioidloaaGreatDoor
namespace Go.Proofs.YtffdpnmioidloaaGreatDoor
open Go Go.Mir
attribute [local irreducible] Go.Mir.DT.sat Go.Mir.evPat
end Go.Proofs.YtffdpnmioidloaaGreatDoor
namespace Go.Proofs.YtffdpnmioidloaaGreatDoor
open Go Go.Mir
attribute [local irreducible] Go.Mir.DT.sat Go.Mir.evPat Go.Mir.RT.sat Go.Mir.evFn
def aA (r:Rules) (x:Innings) (e:Mir.Event):Innings:=
 if e.Kind==2 then js x e.Player e.Other else if e.Kind==3 then bQ r x e.Player else if e.Kind==4 then fM r x e.Ball
 else if e.Kind==5 then (if e.Yes then ml x e.Player else jB x e.Player) else if e.Kind==6 then dz x e.Player e.Yes
 else if e.Kind==7 then aw x e.Runs else if e.Kind==8 then ai x e.Player else if e.Kind==9 then ax x e.Player e.Yes
 else if e.Kind==10 then bu r x else if e.Kind==11 then na r x e else if e.Kind==13 then qS x e else if e.Kind==14 then me r x e.Side e.Yes else pd r x e.Runs e.Overs
def cc (r:Rules) (x:Innings) (e:Mir.Event):Int:=
 if e.Kind==2 then l5 x e.Player e.Other else if e.Kind==3 then db r x e.Player else if e.Kind==4 then iW r x e.Ball
 else if e.Kind==5 then bZ x e.Player else if e.Kind==6 then cA x e.Player e.Yes
 else if e.Kind==7 then fA x e.Runs else if e.Kind==8 then dw x e.Player else if e.Kind==9 then gT x e.Player e.Yes
 else if e.Kind==10 then xV r x else if e.Kind==11 then qi r x e else if e.Kind==13 then pT e else if e.Kind==14 then mc r x e.Side else tT r x e.Runs e.Overs
def FI (e:Mir.Event):Prop:=e.Kind=14→jH e.Side
def Kk:Den (tyP jW)→List Prop×Den (tyP q2L):=fun x=>([fG x.2.1,FI x.2.2.1],(aA x.1 x.2.1 x.2.2.1,cc x.1 x.2.1 x.2.2.1,()))
def Hx (k:Int):Bool:=inW k 2 15&&k != 12
def cE (r:Rules) (x:Innings) (e:Mir.Event):Int:=
 if !bR r x||bB e != 0 then 1 else if x.Ending != 0 then 26 else if !Hx e.Kind||!eM x&&e.Kind != 2 then 1 else cc r x e
def nT (y:Innings) (e:Mir.Event):Innings:={ y with Fresh:=e.Kind==4 }
def ou (r:Rules) (y:Innings):Innings:=if y.Ending==0 then { y with Ending:=xg r y } else y
def cF (r:Rules) (x:Innings) (e:Mir.Event):Innings:=if cE r x e != 0 then x else ou r (nT (aA r x e) e)
def Kn:Den (tyP jW)→List Prop×Den (tyP q2L):=fun x=>([ah x.2.1],(cF x.1 x.2.1 x.2.2.1,cE x.1 x.2.1 x.2.2.1,()))
theorem mq {r:Rules} {x:Innings} (h:bR r x=true):fG x:=by
 unfold bR at h
 simp only [Bool.and_eq_true,beq_iff_eq] at h
 obtain ⟨hc,_,hl,_,_,_,_,h1,h2,_,_⟩:=h
 obtain ⟨⟨_,hs⟩,_⟩:=fc hc
 simp only [AK,Bool.and_eq_true,beq_iff_eq] at hl
 obtain ⟨l1,l2,l3⟩:=hl
 have k1:=qj h1
 have k2:=qj h2
 have e1:x.Bowlers.length≤999999:=by rcases k1 with k|k;omega;rw [k];simp
 have e2:x.Before.length≤999999:=by rcases k2 with k|k;omega;rw [k];simp
 exact ⟨by omega,e1,e2,by omega,by omega⟩
theorem K7 {e:Mir.Event} (h:bB e=0):inW e.Kind 1 16=true:=by
 cases hk:inW e.Kind 1 16 with
 | true=>rfl
 | false=>unfold bB at h;simp [hk] at h
theorem K9 {e:Mir.Event} (h:bB e=0):FI e:=fun hk=>by
 cases hs:inW e.Side 1 2 with
 | true=>simp only [inW,Bool.and_eq_true,decide_eq_true_eq] at hs;unfold jH;omega
 | false=>
  have hu:wJ e.Kind=true:=by rw [hk];rfl
  unfold bB at h
  simp only [hu,hs] at h
  exfalso
  revert h
  repeat' split
  all_goals first |(intro h;exact absurd h (by decide))|simp_all
theorem aD {c:Prop} [Decidable c] {a b:Innings} (ha:ah a) (hb:ah b):ah (if c then a else b):=by
 by_cases h:c
 ·rw [if_pos h];exact ha
 ·rw [if_neg h];exact hb
theorem iw {x:Innings} (h:ah x) (p s:Int):ah (cn x p s):=by
 obtain ⟨h1,h2,h3,h4,h5⟩:=h
 simp [ah,cn,h1,h2,h3,h4,h5]
theorem ug {x:Innings} (h:ah x) (p:Int):ah (ek x p):=by
 have:ah (if aJ x p then cn x p 2 else x):=aD (iw h _ _) h
 exact this
theorem pe {x:Innings} (h:ah x) (b:Bool):ah (cz x b):=aD (c:=b=true) (a:={ x with Striker:=0 }) (b:={ x with Other:=0 }) h h
theorem Hj {x:Innings} (h:ah x) (p:Int) (b:Bool):ah (pV x p b):=by
 obtain ⟨h1,h2,h3,h4,h5⟩:=h
 simp [ah,pV,h1,h2,h3,h4,h5]
theorem tx {r:Rules} {x:Innings} (e:Mir.Event) (hj:fG x):ah (aA r x e):=by
 have h:ah x:=mi hj
 have hf :∀ y,ah y→ah (nf r y e.Ball):=fun y hy=>by
  unfold nf
  exact aD hy (aD hy hy)
 have hp:ah (fM r x e.Ball):=by
  unfold fM
  refine aD h (hf _ ?_)
  have hb:ah (ao r (zN (bC x e.Ball) (aB r e.Ball)) (aB r e.Ball).Counts):=rJ _ (wz e.Ball hj)
  unfold dZ Nn
  exact aD hb hb
 have k2:ah (js x e.Player e.Other):=by
  unfold js
  exact aD h (aD h (aD h (iw (iw h _ _) _ _)))
 have k3:ah (bQ r x e.Player):=by unfold bQ;exact aD h h
 have k5:ah (ml x e.Player):=by unfold ml;exact aD h (ug h _)
 have k5':ah (jB x e.Player):=by unfold jB;exact aD h (aD (iw h _ _) (iw h _ _))
 have k6:ah (dz x e.Player e.Yes):=by unfold dz;exact aD h (aD (iw (pe h _) _ _) (ug (pe h _) _))
 have k7:ah (aw x e.Runs):=by unfold aw;exact aD h h
 have k8:ah (ai x e.Player):=by unfold ai;exact aD h (aD h (aD h h))
 have k9:ah (ax x e.Player e.Yes):=by unfold ax;exact aD h (aD h (Hj h _ _))
 have k10:ah (bu r x):=by unfold bu;exact aD h h
 have k11:ah (na r x e):=by unfold na;exact aD h h
 have k13:ah (qS x e):=by unfold qS;exact aD h (aD h (aD h h))
 have k14:ah (me r x e.Side e.Yes):=by unfold me;exact aD h (aD h h)
 have kT:ah (J6 x e.Runs):=by unfold J6;exact aD h h
 have k15:ah (pd r x e.Runs e.Overs):=by unfold pd ML;exact aD h (aD kT kT)
 unfold aA
 exact aD k2 (aD k3 (aD hp (aD (aD k5 k5') (aD k6 (aD k7 (aD k8 (aD k9 (aD k10 (aD k11 (aD k13 (aD k14 k15)))))))))))
theorem pf {r:Rules} {x:Innings} {e:Mir.Event} (h :(cE r x e != 0)=true):cF r x e=x:=by simp only [cF,h,if_true]
theorem BF (r:Rules) (x:Innings) (e:Mir.Event) (hs:fG x) (h2:FI e) :(evPat (an [Iw,k50,Iz,vH,EU,Aw,k67,k66,k46,k55,vK,Nf,AA,AB] Tryz.f321) (fun _=>none) Tryz.f321 jW q2L (r,x,e,())).sat fun z_=>z_ =(Kk (r,x,e,())).2:=by
 refine cast (by kernel_rfl) (?_ :((e.1 ==(2:Int))=true→ah x∧(js x e.3 e.4,l5 x e.3 e.4,()) =(aA r x e,cc r x e,()))∧((e.1 ==(2:Int))=false→((e.1 ==(3:Int))=true→ah x∧(bQ r x e.3,db r x e.3,()) =(aA r x e,cc r x e,()))∧((e.1 ==(3:Int))=false→((e.1 ==(4:Int))=true→fG x∧(fM r x e.8,iW r x e.8,()) =(aA r x e,cc r x e,()))∧((e.1 ==(4:Int))=false→((e.1 ==(5:Int))=true→(e.5=true→ah x∧(ml x e.3,bZ x e.3,()) =(aA r x e,cc r x e,()))∧(e.5=false→ah x∧(jB x e.3,bZ x e.3,()) =(aA r x e,cc r x e,())))∧((e.1 ==(5:Int))=false→((e.1 ==(6:Int))=true→ah x∧(dz x e.3 e.5,cA x e.3 e.5,()) =(aA r x e,cc r x e,()))∧((e.1 ==(6:Int))=false→((e.1 ==(7:Int))=true→ah x∧(aw x e.6,fA x e.6,()) =(aA r x e,cc r x e,()))∧((e.1 ==(7:Int))=false→((e.1 ==(8:Int))=true→ah x∧(ai x e.3,dw x e.3,()) =(aA r x e,cc r x e,()))∧((e.1 ==(8:Int))=false→((e.1 ==(9:Int))=true→ah x∧(ax x e.3 e.5,gT x e.3 e.5,()) =(aA r x e,cc r x e,()))∧((e.1 ==(9:Int))=false→((e.1 ==(10:Int))=true→ah x∧(bu r x,xV r x,()) =(aA r x e,cc r x e,()))∧((e.1 ==(10:Int))=false→((e.1 ==(11:Int))=true→ah x∧(na r x e,qi r x e,()) =(aA r x e,cc r x e,()))∧((e.1 ==(11:Int))=false→((e.1 ==(13:Int))=true→ah x∧(qS x e,pT e,()) =(aA r x e,cc r x e,()))∧((e.1 ==(13:Int))=false→((e.1 ==(14:Int))=true→ah x∧jH e.2∧(me r x e.2 e.5,mc r x e.2,()) =(aA r x e,cc r x e,()))∧((e.1 ==(14:Int))=false→ah x∧(pd r x e.6 e.7,tT r x e.6 e.7,()) =(aA r x e,cc r x e,()))))))))))))))
 have hi:=mi hs
 refine ⟨fun a2=>?_,fun n2=>⟨fun a3=>?_,fun n3=>⟨fun a4=>?_,fun n4=>⟨fun a5=>?_,fun n5=>⟨fun a6=>?_,fun n6=>⟨fun a7=>?_,fun n7=>⟨fun a8=>?_,fun n8=>⟨fun a9=>?_,fun n9=>⟨fun a10=>?_,fun n10=>⟨fun a11=>?_,fun n11=>⟨fun a13=>?_,fun n13=>⟨fun a14=>?_,fun n14=>?_⟩⟩⟩⟩⟩⟩⟩⟩⟩⟩⟩⟩
 ·exact ⟨hi,by simp only [aA,cc,a2];rfl⟩
 ·exact ⟨hi,by simp only [aA,cc,n2,a3];rfl⟩
 ·exact ⟨hs,by simp only [aA,cc,n2,n3,a4];rfl⟩
 ·exact ⟨fun y=>⟨hi,by simp only [aA,cc,n2,n3,n4,a5,y];rfl⟩,fun y=>⟨hi,by simp only [aA,cc,n2,n3,n4,a5,y];rfl⟩⟩
 ·exact ⟨hi,by simp only [aA,cc,n2,n3,n4,n5,a6];rfl⟩
 ·exact ⟨hi,by simp only [aA,cc,n2,n3,n4,n5,n6,a7];rfl⟩
 ·exact ⟨hi,by simp only [aA,cc,n2,n3,n4,n5,n6,n7,a8];rfl⟩
 ·exact ⟨hi,by simp only [aA,cc,n2,n3,n4,n5,n6,n7,n8,a9];rfl⟩
 ·exact ⟨hi,by simp only [aA,cc,n2,n3,n4,n5,n6,n7,n8,n9,a10];rfl⟩
 ·exact ⟨hi,by simp only [aA,cc,n2,n3,n4,n5,n6,n7,n8,n9,n10,a11];rfl⟩
 ·exact ⟨hi,by simp only [aA,cc,n2,n3,n4,n5,n6,n7,n8,n9,n10,n11,a13];rfl⟩
 ·exact ⟨hi,h2 (eq_of_beq a14),by simp only [aA,cc,n2,n3,n4,n5,n6,n7,n8,n9,n10,n11,n13,a14];rfl⟩
 ·exact ⟨hi,by simp only [aA,cc,n2,n3,n4,n5,n6,n7,n8,n9,n10,n11,n13,n14];rfl⟩
def vM:FuncId×Ctr:=(321,af KE jW q2L Kk)
theorem CU:CtrOK Tryz.prog KE 321 (af KE jW q2L Kk):=by
 refine ar (C:=an [Iw,k50,Iz,vH,EU,Aw,k67,k66,k46,k55,vK,Nf,AA,AB] Tryz.f321) (al (.consU LL rfl (.consU Q5 rfl (.consU LN rfl (.consU CO rfl (.consU I6 rfl (.consU Gs rfl (.consU Rc rfl (.consU Rb rfl (.consU Q4 rfl (.consU Q7 rfl (.consU CS rfl (.consU OJ rfl (.consU Gu rfl (.consU Gv rfl .nil)))))))))))))) _) mixed (fn:=Tryz.f321) Tryz.func321 (by kernel_rfl) (by kernel_rfl) (by kernel_rfl) (by kernel_rfl) (by kernel_rfl) (by kernel_rfl) (Λ:=fun _ _=>none) ?_ ?_
 ·exact fun _ _ _ _ _ _ _ _ h=>by cases h
 ·rintro ⟨r,x,e,⟨⟩⟩ hw hn
  exact BF r x e (hn _ List.mem_cons_self) (hn _ (List.mem_cons_of_mem _ List.mem_cons_self))
theorem JZ (r:Rules) (x:Innings) (e:Mir.Event) (hs:ah x) :(evPat (an [dx,oJ,rj,E3,vM,Az] Tryz.f308) (fun _=>none) Tryz.f308 jW q2L (r,x,e,())).sat fun z_=>z_ =(Kn (r,x,e,())).2:=by
 refine cast (by kernel_rfl) (?_:let r1:Bool:=cc r x e !=(0:Int);let r2:Bool:=(aA r x e).23 ==(0:Int);let r3:Bool:=bif !bR r x then true else bB e !=(0:Int);let r4:Bool:=bif e.1 ==(1:Int) then true else bif e.1 ==(12:Int) then true else bif e.1 ==(16:Int) then true else bif !eM x then e.1 !=(2:Int) else false;let r5:Innings:=Innings.mk (aA r x e).1 (aA r x e).2 (aA r x e).3 (aA r x e).4 (aA r x e).5 (aA r x e).6 (aA r x e).7 (aA r x e).8 (aA r x e).9 (aA r x e).10 (aA r x e).11 (aA r x e).12 (aA r x e).13 (aA r x e).14 (e.1 ==(4:Int)) (aA r x e).16 (aA r x e).17 (aA r x e).18 (aA r x e).19 (aA r x e).20 (aA r x e).21 (aA r x e).22 (aA r x e).23;(ah x∧((!bR r x)=true→True)∧((!bR r x)=false→True))∧(true=true→(r3=true→ah x∧(x,(1:Int),()) =(cF r x e,cE r x e,()))∧(r3=false→((x.23 !=(0:Int))=true→ah x∧(x,(26:Int),()) =(cF r x e,cE r x e,()))∧((x.23 !=(0:Int))=false→(r4=true→ah x∧(x,(1:Int),()) =(cF r x e,cE r x e,()))∧(r4=false→fG x∧FI e∧(r1=true→ah x∧(x,cc r x e,()) =(cF r x e,cE r x e,()))∧(r1=false→((r2=true→ah r5∧True)∧(r2=false→True))∧(true=true→(Innings.mk (bif r2 then (aA r x e).1 else (aA r x e).1) (bif r2 then (aA r x e).2 else (aA r x e).2) (bif r2 then (aA r x e).3 else (aA r x e).3) (bif r2 then (aA r x e).4 else (aA r x e).4) (bif r2 then (aA r x e).5 else (aA r x e).5) (Extras.mk (bif r2 then (aA r x e).6.1 else (aA r x e).6.1) (bif r2 then (aA r x e).6.2 else (aA r x e).6.2) (bif r2 then (aA r x e).6.3 else (aA r x e).6.3) (bif r2 then (aA r x e).6.4 else (aA r x e).6.4) (bif r2 then (aA r x e).6.5 else (aA r x e).6.5)) (bif r2 then (aA r x e).7 else (aA r x e).7) (bif r2 then (aA r x e).8 else (aA r x e).8) (bif r2 then (aA r x e).9 else (aA r x e).9) (bif r2 then (aA r x e).10 else (aA r x e).10) (bif r2 then (aA r x e).11 else (aA r x e).11) (bif r2 then (aA r x e).12 else (aA r x e).12) (bif r2 then (aA r x e).13 else (aA r x e).13) (bif r2 then (aA r x e).14 else (aA r x e).14) (bif r2 then e.1 ==(4:Int) else e.1 ==(4:Int)) (bif r2 then (aA r x e).16 else (aA r x e).16) (bif r2 then (aA r x e).17 else (aA r x e).17) (bif r2 then (aA r x e).18 else (aA r x e).18) (bif r2 then (aA r x e).19 else (aA r x e).19) (bif r2 then (aA r x e).20 else (aA r x e).20) (bif r2 then (aA r x e).21 else (aA r x e).21) (bif r2 then (aA r x e).22.1 else (aA r x e).22.1,bif r2 then (aA r x e).22.2.1 else (aA r x e).22.2.1,()) (bif r2 then xg r r5 else (aA r x e).23),(0:Int),()) =(cF r x e,cE r x e,()))))))))
 intro r1 r2 r3 r4 r5
 clear_value (hr1:r1=_) (hr2:r2=_) (hr3:r3=_) (hr4:r4=_) (hr5:r5=_)
 simp only [Bool.cond_self] at *
 have e3:r3 =(!bR r x||bB e != 0):=by rw [hr3];cases bR r x <;> rfl
 have hv:r3=false→bR r x=true∧bB e=0:=fun h=>by
  rw [e3] at h
  simpa using h
 have e4:r3=false→r4 =(!Hx e.Kind||!eM x&&e.Kind != 2):=fun h=>by
  have hk:=K7 (hv h).2
  simp only [inW,Bool.and_eq_true,decide_eq_true_eq] at hk
  have :(e.Kind==1 ||(e.Kind==12||e.Kind==16))=!Hx e.Kind:=by
   unfold Hx inW
   by_cases k1:e.Kind=1
   ·rw [k1];rfl
   ·by_cases k2:e.Kind=12
    ·rw [k2];rfl
    ·by_cases k3:e.Kind=16
     ·rw [k3];rfl
     ·have q1:e.Kind≥2:=by omega
      have q2:e.Kind≤15:=by omega
      have b1 :(e.Kind==1)=false:=by simpa using k1
      have b2 :(e.Kind==12)=false:=by simpa using k2
      have b3 :(e.Kind==16)=false:=by simpa using k3
      simp [b1,b2,b3,q1,q2,bne]
  rw [hr4,←this]
  cases e.Kind==1 <;> cases e.Kind==12 <;> cases e.Kind==16 <;> cases eM x <;> rfl
 have h5:r5=nT (aA r x e) e:=hr5
 clear hr3 hr4 hr5
 refine ⟨⟨hs,fun _=>trivial,fun _=>trivial⟩,fun _=>⟨fun a=>⟨hs,?_⟩,fun a=>⟨fun b=>⟨hs,?_⟩,fun b=>⟨fun c=>⟨hs,?_⟩,fun c=>⟨mq (hv a).1,K9 (hv a).2,fun d=>⟨hs,?_⟩,fun d=>⟨⟨fun q=>⟨?_,trivial⟩,fun _=>trivial⟩,fun _=>?_⟩⟩⟩⟩⟩⟩
 ·have hL:cE r x e=1:=by simp only [cE,←e3,a];rfl
  rw [pf (by rw [hL];rfl),hL]
 ·have hL:cE r x e=26:=by simp only [cE,←e3,a,b];rfl
  rw [pf (by rw [hL];rfl),hL]
 ·have hL:cE r x e=1:=by simp only [cE,←e3,←e4 a,a,b,c];rfl
  rw [pf (by rw [hL];rfl),hL]
 ·have hL:cE r x e=cc r x e:=by simp only [cE,←e3,←e4 a,a,b,c];rfl
  rw [pf (by rw [hL,←hr1];exact d),hL]
 ·rw [h5];exact tx e (mq (hv a).1)
 ·have hL:cE r x e=0:=by
   have:cE r x e=cc r x e:=by simp only [cE,←e3,←e4 a,a,b,c];rfl
   rw [this]
   rw [hr1] at d
   simpa using d
  have hp:cF r x e=ou r r5:=by simp only [cF,hL,h5];rfl
  rw [hp,hL]
  have hE:r5.Ending =(aA r x e).Ending:=by rw [h5];rfl
  unfold ou
  rw [hE,←hr2]
  cases r2 with
  | true=>rw [if_pos rfl,h5];rfl
  | false=>rw [if_neg (by decide),h5];rfl
def xJ:FuncId×Ctr:=(308,af KE jW q2L Kn)
theorem Fo:CtrOK Tryz.prog KE 308 (af KE jW q2L Kn):=by
 refine ar (C:=an [dx,oJ,rj,E3,vM,Az] Tryz.f308) (al (.consU gD rfl (.consU tj rfl (.consU AU rfl (.consU Jb rfl (.consU CU rfl (.consU Gt rfl .nil)))))) _) mixed (fn:=Tryz.f308) Tryz.func308 (by kernel_rfl) (by kernel_rfl) (by kernel_rfl) (by kernel_rfl) (by kernel_rfl) (by kernel_rfl) (Λ:=fun _ _=>none) ?_ ?_
 ·exact fun _ _ _ _ _ _ _ _ h=>by cases h
 ·rintro ⟨r,x,e,⟨⟩⟩ hw hn
  exact JZ r x e (hn _ List.mem_cons_self)
end Go.Proofs.YtffdpnmioidloaaGreatDoor
namespace Go.Proofs.YtffdpnmioidloaaGreatDoor
open Go Go.Mir
attribute [local irreducible] Go.Mir.DT.sat Go.Mir.evPat Go.Mir.RT.sat Go.Mir.evFn
abbrev yg:Pat:=bX [.nm .Rules,I,I,I]
def Cc (s t p:Int):Bool:=!inW s 1 2 ||(!inW t 0 1000000||!inW p 0 1000000)
def mY (r:Rules) (s t p:Int):Int:=if aC r != 0 then aC r else if Cc s t p then 2 else 0
def zL {α:Type} (n:Int) (v:α):List α:=List.replicate n.toNat v
def KX (r:Rules) (s t p:Int):Innings:={ Innings.zero with Side:=s,Target:=t,Overs:=r.Overs,Runs:=p,Extras:={ Extras.zero with Penalties:=p },Batters:=zL r.Side 0,Bowled:=zL r.Side 0,Subs:=zL r.Side false }
def mZ (r:Rules) (s t p:Int):Innings:=if mY r s t p != 0 then Innings.zero else KX r s t p
def DI:Den (tyP yg)→List Prop×Den (tyP q2L):=fun x=>([],(mZ x.1 x.2.1 x.2.2.1 x.2.2.2.1,mY x.1 x.2.1 x.2.2.1 x.2.2.2.1,()))
theorem GU (r:Rules) (s:Int) (t:Int) (p:Int) :(evPat (an [k85,cM] Tryz.f306) (fun _=>none) Tryz.f306 yg q2L (r,s,t,p,())).sat fun z_=>z_ =(DI (r,s,t,p,())).2:=by
 refine cast (by kernel_rfl) (?_:let r1:Bool:=bif !inW s (1:Int) (2:Int) then true else bif !inW t (0:Int) (1000000:Int) then true else !inW p (0:Int) (1000000:Int);let r2:Innings:=Innings.mk (0:Int) (0:Int) (0:Int) (0:Int) (0:Int) (Extras.mk (0:Int) (0:Int) (0:Int) (0:Int) (0:Int)) (0:Int) (0:Int) (0:Int) (0:Int) [] (0:Int) [] [] false [] false (0:Int) (0:Int) (0:Int) [] ((0:Int),(0:Int),()) (0:Int);((aC r !=(0:Int))=true→(r2,aC r,()) =(mZ r s t p,mY r s t p,()))∧((aC r !=(0:Int))=false→(r1=true→(r2,(2:Int),()) =(mZ r s t p,mY r s t p,()))∧(r1=false→((0:Int)≤r.2∧r.2=r.2∧r.2≤(17179869184:Int))∧((0:Int)≤r.2∧r.2=r.2∧r.2≤(17179869184:Int))∧((0:Int)≤r.2∧r.2=r.2∧r.2≤(17179869184:Int))∧(Innings.mk s t r.4 p (0:Int) (Extras.mk (0:Int) (0:Int) (0:Int) (0:Int) p) (0:Int) (0:Int) (0:Int) (0:Int) (List.replicate r.2.toNat (0:Int)) (0:Int) [] [] false (List.replicate r.2.toNat (0:Int)) false (0:Int) (0:Int) (0:Int) (List.replicate r.2.toNat false) ((0:Int),(0:Int),()) (0:Int),(0:Int),()) =(mZ r s t p,mY r s t p,()))))
 intro r1 r2
 clear_value (hr1:r1=_) (hr2:r2=_)
 have e1:r1=Cc s t p:=by rw [hr1];unfold Cc;cases inW s 1 2 <;> cases inW t 0 1000000 <;> rfl
 have e2:r2=Innings.zero:=hr2
 rw [e1,e2]
 refine ⟨fun h=>?_,fun h=>⟨fun h2=>?_,fun h2=>?_⟩⟩
 ·have hL:mY r s t p=aC r:=by simp only [mY,h,if_true]
  have hY:mZ r s t p=Innings.zero:=by simp only [mZ,hL,h,if_true]
  rw [hL,hY]
 ·have hL:mY r s t p=2:=by simp only [mY,h,h2];rfl
  have hY:mZ r s t p=Innings.zero:=by simp only [mZ,hL];rfl
  rw [hL,hY]
 ·have hL:mY r s t p=0:=by simp only [mY,h,h2];rfl
  have hY:mZ r s t p=KX r s t p:=by simp only [mZ,hL];rfl
  have hr:=(fc (r:=r) (by simpa using h)).1
  have hb:0≤r.Side∧r.Side=r.Side∧r.Side≤17179869184:=⟨by omega,rfl,by omega⟩
  rw [hL,hY]
  exact ⟨hb,hb,hb,rfl⟩
def EZ:FuncId×Ctr:=(306,af KE yg q2L DI)
theorem Ja:CtrOK Tryz.prog KE 306 (af KE yg q2L DI):=by
 refine ar (C:=an [k85,cM] Tryz.f306) (al (.consU tc rfl (.consU eY rfl .nil)) _) mixed (fn:=Tryz.f306) Tryz.func306 (by kernel_rfl) (by kernel_rfl) (by kernel_rfl) (by kernel_rfl) (by kernel_rfl) (by kernel_rfl) (Λ:=fun _ _=>none) ?_ ?_
 ·exact fun _ _ _ _ _ _ _ _ h=>by cases h
 ·rintro ⟨r,s,t,p,⟨⟩⟩ hw hn
  exact GU r s t p
end Go.Proofs.YtffdpnmioidloaaGreatDoor
namespace Go.Proofs.YtffdpnmioidloaaGreatDoor
open Go Go.Mir
attribute [local irreducible] Go.Mir.DT.sat Go.Mir.evPat Go.Mir.RT.sat Go.Mir.evFn
abbrev KU:Ty:= .slice (.nm .Innings)
abbrev qM:Pat:=bX [.nm .Match]
abbrev qMI:Pat:=bX [.nm .Match,I]
def dP (s:Int):Int:=W (3 - s)
def DU:Den (tyP bA)→List Prop×Den (tyP bA):=fun x=>([],(dP x.1,()))
def FG (m:Match) (i:Int):Bool:=if m.Follow&&decide (i≥2) then i==2 else i.tmod 2==1
def dc (m:Match) (i:Int):Int:=if FG m i then dP m.First else m.First
def yw:Den (tyP qMI)→List Prop×Den (tyP bA):=fun x=>([],(dc x.1 x.2.1,()))
def KM (s:Int):List Innings→Int→Int
 | [],n=>n
 | x::l,n=>KM s l (if x.Side==s then W (n+x.Runs) else n)
def lj (m:Match) (s:Int):Int:=KM s m.Innings 0
def Kr:Den (tyP qMI)→List Prop×Den (tyP bA):=fun x=>([],(lj x.1 x.2.1,()))
def fI (m:Match) (s:Int):Int:=
 if decide (W ((m.Innings.length:Int)+1)<W (2*m.Rules.Innings)) then 0 else W (W (lj m (dP s) - lj m s)+1)
def yD:Den (tyP qMI)→List Prop×Den (tyP bA):=fun x=>([],(fI x.1 x.2.1,()))
abbrev qTo:Pat:=⟨[(5,.h I),(1,.h I),(9,.h KU),(10,.h I),(11,.h I)],[],0⟩
abbrev xTo:List (Lf×Pat):= [(.ext 0,⟨[(5,.h I)],[],0⟩)]
abbrev TTo:Type:=Int×Int×List Innings×Int×Int×Unit
def nh (x:TTo):Prop:=x.2.2.2.1 =(x.2.2.1.length:Int)∧0≤x.2.2.2.2.1∧x.2.2.2.2.1≤x.2.2.2.1∧x.2.2.1.length≤aO
def Gh (x:TTo):Nat:=(x.2.2.2.1 - x.2.2.2.2.1).toNat
def nt (x:TTo):Int×Unit:=(KM x.2.1 (x.2.2.1.drop x.2.2.2.2.1.toNat) x.1,())
theorem zz {m:Match} (h:wfD (.nm .Match) m):m.Innings.length≤aO:=
 dE (bg (aH (aH (aH (aH (B3 h))))))
theorem G5 (s:Int) :(evPat (an [] Tryz.f279) (fun _=>none) Tryz.f279 bA bA (s,())).sat fun z_=>z_ =(DU (s,())).2:=by
 refine cast (by kernel_rfl) (?_ :(IntKind.i64.wrap ((3:Int) - s),()) =(dP s,()))
 rfl
def gr:FuncId×Ctr:=(279,af KE bA bA DU)
theorem l4:CtrOK Tryz.prog KE 279 (af KE bA bA DU):=by
 refine ar (C:=an [] Tryz.f279) (al (CtrsOK.nil) _) mixed (fn:=Tryz.f279) Tryz.func279 (by kernel_rfl) (by kernel_rfl) (by kernel_rfl) (by kernel_rfl) (by kernel_rfl) (by kernel_rfl) (Λ:=fun _ _=>none) ?_ ?_
 ·exact fun _ _ _ _ _ _ _ _ h=>by cases h
 ·rintro ⟨s,⟨⟩⟩ hw hn
  exact G5 s
theorem G4 (m:Match) (i:Int) :(evPat (an [gr] Tryz.f273) (fun _=>none) Tryz.f273 qMI bA (m,i,())).sat fun z_=>z_ =(yw (m,i,())).2:=by
 refine cast (by kernel_rfl) (?_:let r1:Bool:=bif bif m.4 then decide (i≥(2:Int)) else false then i ==(2:Int) else i.tmod (2:Int) ==(1:Int);(2:Int)≠(0:Int)∧(r1=true→(dP m.3,()) =(dc m i,()))∧(r1=false→(m.3,()) =(dc m i,())))
 intro r1
 clear_value (hr1:r1=_)
 grind [dc,FG]
def xK:FuncId×Ctr:=(273,af KE qMI bA yw)
theorem AY:CtrOK Tryz.prog KE 273 (af KE qMI bA yw):=by
 refine ar (C:=an [gr] Tryz.f273) (al (.consU l4 rfl .nil) _) mixed (fn:=Tryz.f273) Tryz.func273 (by kernel_rfl) (by kernel_rfl) (by kernel_rfl) (by kernel_rfl) (by kernel_rfl) (by kernel_rfl) (Λ:=fun _ _=>none) ?_ ?_
 ·exact fun _ _ _ _ _ _ _ _ h=>by cases h
 ·rintro ⟨m,i,⟨⟩⟩ hw hn
  exact G4 m i
noncomputable def lpTo:Lp:=(⟨0,an [] Tryz.f283,(fun _=>none),(aG Tryz.f283 0),qTo,xTo⟩:Lp)
theorem Pd (a:Int) (s:Int) (xs:List Innings) (n:Int) (i:Int) (hi:nh (a,s,xs,n,i,())) :(Go.Mir.stepG lpTo nt (fun y:Den (tyP lpTo.q)=>nh y∧Gh y<Gh (a,s,xs,n,i,())) (a,s,xs,n,i,())∧Go.Mir.stepE lpTo nt (a,s,xs,n,i,())=nt (a,s,xs,n,i,())):=by
 refine cast (by kernel_rfl) (?_:let r1:Bool:=(xs.getD i.toNat (dflt (Ty.nm Nm.Innings))).1==s;let r2:Int×Unit:=nt (bif r1 then IntKind.i64.wrap (a +(xs.getD i.toNat (dflt (Ty.nm Nm.Innings))).4) else a,s,xs,n,IntKind.i64.wrap (i +(1:Int)),());((decide (i<n)=true→(((0:Int)≤i∧i <(↑xs.length:Int))∧(r1=true→True)∧(r1=false→True))∧(true=true→nh (bif r1 then IntKind.i64.wrap (a +(xs.getD i.toNat (dflt (Ty.nm Nm.Innings))).4) else a,s,xs,n,IntKind.i64.wrap (i +(1:Int)),())∧Gh (bif r1 then IntKind.i64.wrap (a +(xs.getD i.toNat (dflt (Ty.nm Nm.Innings))).4) else a,s,xs,n,IntKind.i64.wrap (i +(1:Int)),())<Gh (a,s,xs,n,i,())))∧(decide (i<n)=false→True))∧(bif decide (i<n) then bif true&&true then r2 else bif true then r2 else bif r1 then dflt (I.prod Ty.unit) else dflt (I.prod Ty.unit) else (a,()))=nt (a,s,xs,n,i,()))
 intro r1 r2
 clear_value (hr1:r1=_) (hr2:r2=_)
 obtain ⟨h1,h2,h3,h4⟩:=hi
 simp only at h1 h2 h3 h4
 have h5 :(xs.length:Int)≤140737488355328:=by have:xs.length≤140737488355328:=h4;omega
 refine ⟨⟨fun h=>?_,fun _=>trivial⟩,?_⟩
 ·have h:i<n:=of_decide_eq_true h
  rw [bd (n:=i+1) (by omega) (by omega)]
  exact ⟨⟨⟨h2,by omega⟩,fun _=>trivial,fun _=>trivial⟩,fun _=>⟨⟨h1,by simp only;omega,by simp only;omega,h4⟩,by simp only [Gh];omega⟩⟩
 ·by_cases h:i<n
  ·rw [bd (n:=i+1) (by omega) (by omega)] at hr2
   have e:xs.drop i.toNat=xs.getD i.toNat (dflt (Ty.nm Nm.Innings))::xs.drop (i+1).toNat:=cZ h2 (by omega) _
   rw [decide_eq_true h]
   show r2=_
   rw [hr2,hr1]
   generalize xs.getD i.toNat (dflt (Ty.nm Nm.Innings))=v at e ⊢
   simp only [nt,e,KM]
   cases v.Side==s <;> rfl
  ·rw [decide_eq_false h,cond_false]
   simp only [nt]
   rw [cq (l:=xs) (by omega)]
   rfl
noncomputable def NQ:LoopSum:=bb lpTo nt nh
noncomputable def NB:Nat:=rid (aG Tryz.f283 0)
theorem Ou:LoopOKp Tryz.prog 0 Tryz.f283.ntmps (aG Tryz.f283 0) (bb lpTo nt nh):=
 bJ lpTo (al (CtrsOK.nil) _) mixed (fun b hb S hS=>by cases hS) nt nh Gh (fun |⟨a,s,xs,n,i,⟨⟩⟩,hi=>Pd a s xs n i hi)
theorem G6 (m:Match) (s:Int) (hx:m.Innings.length≤aO) :(evPat (an [] Tryz.f283) (find [(NB,NQ)]) Tryz.f283 qMI bA (m,s,())).sat fun z_=>z_ =(Kr (m,s,())).2:=by
 refine cast (by kernel_rfl) (?_ :((fi fun x=>none)∧(↑m.5.length:Int) =(↑m.5.length:Int)∧(0:Int)≤(0:Int)∧(0:Int)≤(↑m.5.length:Int)∧m.5.length≤aO)∧(KM s (List.drop (Int.toNat (0:Int)) m.5) (0:Int),()) =(lj m s,()))
 exact ⟨⟨rfl,rfl,Int.le_refl _,by omega,hx⟩,rfl⟩
def mH:FuncId×Ctr:=(283,af KE qMI bA Kr)
theorem tp:CtrOK Tryz.prog KE 283 (af KE qMI bA Kr):=by
 refine ar (C:=an [] Tryz.f283) (al (CtrsOK.nil) _) mixed (fn:=Tryz.f283) Tryz.func283 (by kernel_rfl) (by kernel_rfl) (by kernel_rfl) (by kernel_rfl) (by kernel_rfl) (by kernel_rfl) (Λ:=fun x=>find [(NB,NQ)]) ?_ ?_
 ·rintro ⟨m,s,⟨⟩⟩ hw hn
  exact LoopsOKp.at (by kernel_rfl) (.cons (by kernel_rfl) (Ou) .nil)
 ·rintro ⟨m,s,⟨⟩⟩ hw hn
  exact G6 m s (zz (bg hw))
theorem DA (m:Match) (s:Int) :(evPat (an [gr,mH] Tryz.f307) (fun _=>none) Tryz.f307 qMI bA (m,s,())).sat fun z_=>z_ =(yD (m,s,())).2:=by
 refine cast (by kernel_rfl) (?_:let r1:Int:=IntKind.i64.wrap ((2:Int)*m.1.3);let r2:Int:=IntKind.i64.wrap ((↑m.5.length:Int) +(1:Int));let r3:Bool:=decide (r2<r1);(r3=true→((0:Int),()) =(fI m s,()))∧(r3=false→(IntKind.i64.wrap (IntKind.i64.wrap (lj m (dP s) - lj m s) +(1:Int)),()) =(fI m s,())))
 intro r1 r2 r3
 clear_value (hr1:r1=_) (hr2:r2=_) (hr3:r3=_)
 grind [fI]
def AD:FuncId×Ctr:=(307,af KE qMI bA yD)
theorem Gx:CtrOK Tryz.prog KE 307 (af KE qMI bA yD):=by
 refine ar (C:=an [gr,mH] Tryz.f307) (al (.consU l4 rfl (.consU tp rfl .nil)) _) mixed (fn:=Tryz.f307) Tryz.func307 (by kernel_rfl) (by kernel_rfl) (by kernel_rfl) (by kernel_rfl) (by kernel_rfl) (by kernel_rfl) (Λ:=fun _ _=>none) ?_ ?_
 ·exact fun _ _ _ _ _ _ _ _ h=>by cases h
 ·rintro ⟨m,s,⟨⟩⟩ hw hn
  exact DA m s
end Go.Proofs.YtffdpnmioidloaaGreatDoor
namespace Go.Proofs.YtffdpnmioidloaaGreatDoor
open Go Go.Mir
attribute [local irreducible] Go.Mir.DT.sat Go.Mir.evPat Go.Mir.RT.sat Go.Mir.evFn
def IJ (st n i:Int):Bool:=st==3&&i==W (n - 1)
def Cl (st n:Int):List Innings→Int→Bool
 | [],_=>true
 | x::l,i=>if (x.Ending==0) != IJ st n i then false else Cl st n l (i+1)
def kn (m:Match):Bool:=Cl m.Stage m.Innings.length m.Innings 0&&(m.Stage != 3||decide ((m.Innings.length:Int)>0))
def DN:Den (tyP qM)→List Prop×Den (tyP aF):=fun x=>([],(kn x.1,()))
abbrev qEn:Pat:=⟨[(1,.c (.ptr 0 0)),(3,.h I),(10,.h KU),(11,.h I),(12,.h I)],[(0,.dat (.nm .Match))],1⟩
abbrev xEn:List (Lf×Pat):= [(.ret,⟨[(2,.h .bool)],[],0⟩),(.ext 0,⟨[(1,.c (.ptr 0 0)),(3,.h I)],[(0,.dat (.nm .Match))],1⟩)]
abbrev TEn:Type:=Int×List Innings×Int×Int×Match×Unit
def vC (x:TEn):Prop:=nh (0,0,x.2.1,x.2.2.1,x.2.2.2.1,())
def Gf (x:TEn):Nat:=(x.2.2.1 - x.2.2.2.1).toNat
def Nl (n:Int) (m:Match) (b:Bool):Sum (Bool×Unit) (Int×Match×Unit):=if b then .inr (n,m,()) else .inl (false,())
def jv (x:TEn):Sum (Bool×Unit) (Int×Match×Unit):=Nl x.1 x.2.2.2.2.1 (Cl x.2.2.2.2.1.Stage x.1 (x.2.1.drop x.2.2.2.1.toNat) x.2.2.2.1)
noncomputable def lpEn:Lp:=(⟨0,an [] Tryz.f274,(fun _=>none),(aG Tryz.f274 0),qEn,xEn⟩:Lp)
theorem Pa (k:Int) (xs:List Innings) (n:Int) (i:Int) (m:Match) (hi:vC (k,xs,n,i,m,())) :(Go.Mir.stepG lpEn jv (fun y:Den (tyP lpEn.q)=>vC y∧Gf y<Gf (k,xs,n,i,m,())) (k,xs,n,i,m,())∧Go.Mir.stepE lpEn jv (k,xs,n,i,m,())=jv (k,xs,n,i,m,())):=by
 refine cast (by kernel_rfl) (?_:let r1:Bool:=(xs.getD i.toNat (dflt (Ty.nm Nm.Innings))).23 ==(0:Int);let r2:Bool:=bif m.2 ==(3:Int) then !r1 ==(i==IntKind.i64.wrap (k - (1:Int))) else !r1==false;((decide (i<n)=true→((0:Int)≤i∧i <(↑xs.length:Int))∧(r2=true→True)∧(r2=false→vC (k,xs,n,IntKind.i64.wrap (i +(1:Int)),m,())∧Gf (k,xs,n,IntKind.i64.wrap (i +(1:Int)),m,())<Gf (k,xs,n,i,m,())))∧(decide (i<n)=false→True))∧(bif decide (i<n) then bif r2 then Sum.inl (false,()) else jv (k,xs,n,IntKind.i64.wrap (i +(1:Int)),m,()) else Sum.inr (k,m,()))=jv (k,xs,n,i,m,()))
 intro r1 r2
 clear_value (hr1:r1=_) (hr2:r2=_)
 obtain ⟨h1,h2,h3,h4⟩:=hi
 simp only at h1 h2 h3 h4
 have h5 :(xs.length:Int)≤140737488355328:=by have:xs.length≤140737488355328:=h4;omega
 refine ⟨⟨fun h=>?_,fun _=>trivial⟩,?_⟩
 ·have h:i<n:=of_decide_eq_true h
  rw [bd (n:=i+1) (by omega) (by omega)]
  exact ⟨⟨h2,by omega⟩,fun _=>trivial,fun _=>⟨⟨h1,by simp only;omega,by simp only;omega,h4⟩,by simp only [Gf];omega⟩⟩
 ·by_cases h:i<n
  ·have e:xs.drop i.toNat=xs.getD i.toNat (dflt (Ty.nm Nm.Innings))::xs.drop (i+1).toNat:=cZ h2 (by omega) _
   rw [decide_eq_true h,cond_true,bd (n:=i+1) (by omega) (by omega)]
   generalize xs.getD i.toNat (dflt (Ty.nm Nm.Innings))=v at e hr1
   have e2:r2 =((v.Ending==0) != IJ m.Stage k i):=by
    rw [hr2,hr1]
    unfold IJ
    cases m.Stage==3 <;> cases v.Ending==0 <;> cases i==IntKind.i64.wrap (k - 1) <;> rfl
   simp only [jv,e,Cl]
   rw [←e2]
   cases r2 <;> rfl
  ·rw [decide_eq_false h,cond_false]
   simp only [jv]
   rw [cq (l:=xs) (by omega)]
   rfl
noncomputable def NN:LoopSum:=bb lpEn jv vC
noncomputable def Ny:Nat:=rid (aG Tryz.f274 0)
theorem Oo:LoopOKp Tryz.prog 0 Tryz.f274.ntmps (aG Tryz.f274 0) (bb lpEn jv vC):=
 bJ lpEn (al (CtrsOK.nil) _) mixed (fun b hb S hS=>by cases hS) jv vC Gf (fun |⟨k,xs,n,i,m,⟨⟩⟩,hi=>Pa k xs n i m hi)
theorem G3 (m:Match) (hx:m.Innings.length≤aO) :(evPat (an [] Tryz.f274) (find [(Ny,NN)]) Tryz.f274 qM aF (m,())).sat fun z_=>z_ =(DN (m,())).2:=by
 refine cast (by kernel_rfl) (?_:let r1:Bool:=isL (jv ((↑m.5.length:Int),m.5,(↑m.5.length:Int),(0:Int),m,()));let r2:Int×Match×PUnit:=uP (dflt (I.prod ((Ty.nm Nm.Match).prod Ty.unit))) (jv ((↑m.5.length:Int),m.5,(↑m.5.length:Int),(0:Int),m,()));((fi fun x=>none)∧(↑m.5.length:Int) =(↑m.5.length:Int)∧(0:Int)≤(0:Int)∧(0:Int)≤(↑m.5.length:Int)∧m.5.length≤aO)∧(r1=true→nU (dflt (Ty.bool.prod Ty.unit)) (jv ((↑m.5.length:Int),m.5,(↑m.5.length:Int),(0:Int),m,())) =(kn m,()))∧(r1=false→(bif r2.2.1.2 !=(3:Int) then true else decide (r2.1 >(0:Int)),()) =(kn m,())))
 intro r1 r2
 clear_value (hr1:r1=_) (hr2:r2=_)
 have er:jv ((m.Innings.length:Int),m.Innings,(m.Innings.length:Int),0,m,())=Nl m.Innings.length m (Cl m.Stage m.Innings.length m.Innings 0):=rfl
 rw [er] at hr1 hr2 ⊢
 refine ⟨⟨rfl,rfl,Int.le_refl _,by omega,hx⟩,fun h=>?_,fun h=>?_⟩
 ·cases hE:Cl m.Stage m.Innings.length m.Innings 0 with
  | true=>rw [hE] at hr1;rw [hr1] at h;cases h
  | false=>simp only [kn,hE];rfl
 ·cases hE:Cl m.Stage m.Innings.length m.Innings 0 with
  | false=>rw [hE] at hr1;rw [hr1] at h;cases h
  | true=>
   rw [hE] at hr2
   have e2:r2 =((m.Innings.length:Int),m,()):=hr2
   rw [e2]
   simp only [kn,hE]
   cases m.Stage != 3 <;> rfl
def rl:FuncId×Ctr:=(274,af KE qM aF DN)
theorem AX:CtrOK Tryz.prog KE 274 (af KE qM aF DN):=by
 refine ar (C:=an [] Tryz.f274) (al (CtrsOK.nil) _) mixed (fn:=Tryz.f274) Tryz.func274 (by kernel_rfl) (by kernel_rfl) (by kernel_rfl) (by kernel_rfl) (by kernel_rfl) (by kernel_rfl) (Λ:=fun x=>find [(Ny,NN)]) ?_ ?_
 ·rintro ⟨m,⟨⟩⟩ hw hn
  exact LoopsOKp.at (by kernel_rfl) (.cons (by kernel_rfl) (Oo) .nil)
 ·rintro ⟨m,⟨⟩⟩ hw hn
  exact G3 m (zz (bg hw))
end Go.Proofs.YtffdpnmioidloaaGreatDoor
namespace Go.Proofs.YtffdpnmioidloaaGreatDoor
open Go Go.Mir
attribute [local irreducible] Go.Mir.DT.sat Go.Mir.evPat Go.Mir.RT.sat Go.Mir.evFn
def gd (l:List Innings):Prop:=∀ z∈l,ah z
def jI (m:Match):Prop:=gd m.Innings
def okF (m:Match):List Innings→Int→Bool
 | [],_=>true
 | x::l,i=>if !bR m.Rules x||x.Side != dc m i then false else okF m l (i+1)
abbrev qVa:Pat:=⟨[(1,.c (.ptr 0 0)),(122,.h KU),(123,.h I),(124,.h I)],[(0,.dat (.nm .Match))],1⟩
abbrev xVa:List (Lf×Pat):= [(.ret,⟨[(2,.h .bool)],[],0⟩),(.ext 3,⟨[(1,.c (.ptr 0 0))],[(0,.dat (.nm .Match))],1⟩)]
abbrev TVa:Type:=List Innings×Int×Int×Match×Unit
def vE (x:TVa):Prop:=nh (0,0,x.1,x.2.1,x.2.2.1,())∧gd x.1
def Gi (x:TVa):Nat:=(x.2.1 - x.2.2.1).toNat
def Ft (m:Match) (b:Bool):Sum (Bool×Unit) (Match×Unit):=if b then .inr (m,()) else .inl (false,())
def iX (x:TVa):Sum (Bool×Unit) (Match×Unit):=Ft x.2.2.2.1 (okF x.2.2.2.1 (x.1.drop x.2.2.1.toNat) x.2.2.1)
def jb (m:Match):Bool:=
 let n:Int:=m.Innings.length
 (decide (m.First<0) ||(decide (m.First>2)||decide (n>W (2*m.Rules.Innings))))
 ||(m.First==0&&(decide (n>0)||m.Stage != 1&&m.Stage != 5))
 ||(m.Stage==1&&m.First != 0)
 ||(m.Stage==2&&n==W (2*m.Rules.Innings))
 ||(m.Stage==4&&(!(m.Rules.Innings==2)||n != 2))
 ||(m.Follow&&(!(m.Rules.Innings==2)||decide (n<2)))
def C9 (m:Match):Bool:=!inW m.Penalty.1 0 1000000||!inW m.Penalty.2.1 0 1000000
def aW (m:Match):Bool:=aC m.Rules==0&&(inW m.Stage 1 5&&(!C9 m&&(!jb m&&(okF m m.Innings 0&&kn m))))
def yF:Den (tyP qM)→List Prop×Den (tyP aF):=fun x=>([jI x.1],(aW x.1,()))
theorem lH {α:Type} {xs:List α} {i:Nat} (h:i<xs.length) (d:α):xs.getD i d∈xs:=by
 rw [List.getD_eq_getElem?_getD,List.getElem?_eq_getElem h]
 exact List.getElem_mem h
noncomputable def lpVa:Lp:=(⟨0,an [oJ,xK] Tryz.f233,(fun _=>none),(aG Tryz.f233 1),qVa,xVa⟩:Lp)
theorem Pe (xs:List Innings) (n:Int) (i:Int) (m:Match) (hi:vE (xs,n,i,m,())) :(Go.Mir.stepG lpVa iX (fun y:Den (tyP lpVa.q)=>vE y∧Gi y<Gi (xs,n,i,m,())) (xs,n,i,m,())∧Go.Mir.stepE lpVa iX (xs,n,i,m,())=iX (xs,n,i,m,())):=by
 refine cast (by kernel_rfl) (?_:let r1:Bool:=!bR m.1 (xs.getD i.toNat (dflt (Ty.nm Nm.Innings)));let r2:Bool:=bif r1 then true else (xs.getD i.toNat (dflt (Ty.nm Nm.Innings))).1 != dc m i;((decide (i<n)=true→((0:Int)≤i∧i <(↑xs.length:Int))∧(ah (xs.getD i.toNat (dflt (Ty.nm Nm.Innings)))∧(r1=true→True)∧(r1=false→True))∧(true=true→(r2=true→True)∧(r2=false→vE (xs,n,IntKind.i64.wrap (i +(1:Int)),m,())∧Gi (xs,n,IntKind.i64.wrap (i +(1:Int)),m,())<Gi (xs,n,i,m,()))))∧(decide (i<n)=false→True))∧(bif decide (i<n) then bif true&&true then bif r2 then Sum.inl (false,()) else iX (xs,n,IntKind.i64.wrap (i +(1:Int)),m,()) else bif true then bif r2 then Sum.inl (false,()) else iX (xs,n,IntKind.i64.wrap (i +(1:Int)),m,()) else bif r1 then Sum.inl (dflt (Ty.bool.prod Ty.unit)) else Sum.inl (dflt (Ty.bool.prod Ty.unit)) else Sum.inr (m,()))=iX (xs,n,i,m,()))
 intro r1 r2
 clear_value (hr1:r1=_) (hr2:r2=_)
 obtain ⟨⟨h1,h2,h3,h4⟩,hs⟩:=hi
 simp only at h1 h2 h3 h4 hs
 have h5 :(xs.length:Int)≤140737488355328:=by have:xs.length≤140737488355328:=h4;omega
 refine ⟨⟨fun h=>?_,fun _=>trivial⟩,?_⟩
 ·have h:i<n:=of_decide_eq_true h
  rw [bd (n:=i+1) (by omega) (by omega)]
  refine ⟨⟨h2,by omega⟩,⟨hs _ ?_,fun _=>trivial,fun _=>trivial⟩,fun _=>⟨fun _=>trivial,fun _=>⟨⟨⟨h1,by simp only;omega,by simp only;omega,h4⟩,hs⟩,by simp only [Gi];omega⟩⟩⟩
  have hl:i.toNat<xs.length:=by omega
  exact lH hl _
 ·by_cases h:i<n
  ·have e:xs.drop i.toNat=xs.getD i.toNat (dflt (Ty.nm Nm.Innings))::xs.drop (i+1).toNat:=cZ h2 (by omega) _
   rw [decide_eq_true h,bd (n:=i+1) (by omega) (by omega)]
   generalize xs.getD i.toNat (dflt (Ty.nm Nm.Innings))=v at e hr1 hr2
   have e2:r2 =(!bR m.Rules v||v.Side != dc m i):=by
    rw [hr2,hr1]
    cases bR m.Rules v <;> rfl
   simp only [iX,e,okF]
   rw [←e2]
   cases r2 <;> rfl
  ·rw [decide_eq_false h,cond_false]
   simp only [iX]
   rw [cq (l:=xs) (by omega)]
   rfl
noncomputable def NR:LoopSum:=bb lpVa iX vE
noncomputable def NC:Nat:=rid (aG Tryz.f233 1)
theorem Ov:LoopOKp Tryz.prog 0 Tryz.f233.ntmps (aG Tryz.f233 1) (bb lpVa iX vE):=
 bJ lpVa (al (.consU tj rfl (.consU AY rfl .nil)) _) mixed (fun b hb S hS=>by cases hS) iX vE Gi (fun |⟨xs,n,i,m,⟨⟩⟩,hi=>Pe xs n i m hi)
theorem G7 (m:Match) (hm:jI m) (hx:m.Innings.length≤aO) :(evPat (an [k85,rl] Tryz.f233) (find [(rid (aG Tryz.f233 0),dX 3 (an [k85,rl] Tryz.f233) (fun _=>none) (aG Tryz.f233 0)),(NC,NR)]) Tryz.f233 qM aF (m,())).sat fun z_=>z_ =(yF (m,())).2:=by
 refine cast (by kernel_rfl) (?_:let r1:Bool:=!m.1.3 ==(2:Int);let r2:Int:=IntKind.i64.wrap ((2:Int)*m.1.3);let r3:Int:=IntKind.i64.wrap ((0:Int) +(1:Int));let r4:Bool:=bif m.2 ==(1:Int) then m.3 !=(0:Int) else false;let r5:Bool:=bif decide (m.6.1 <(0:Int)) then true else decide (m.6.1 >(1000000:Int));let r6:Bool:=bif m.2 ==(2:Int) then (↑m.5.length:Int)==r2 else false;let r7:Bool:=bif decide (m.6.2.1 <(0:Int)) then true else decide (m.6.2.1 >(1000000:Int));let r8:Bool:=bif m.2 ==(4:Int) then bif r1 then true else (↑m.5.length:Int) !=(2:Int) else false;let r9:Bool:=bif m.4 then bif r1 then true else decide ((↑m.5.length:Int) <(2:Int)) else false;let r10:Bool:=bif aC m.1 !=(0:Int) then true else bif decide (m.2 <(1:Int)) then true else decide (m.2 >(5:Int));let r11:Bool:=bif m.3 ==(0:Int) then bif decide ((↑m.5.length:Int) >(0:Int)) then true else bif m.2 !=(1:Int) then m.2 !=(5:Int) else false else false;let r12:Bool:=bif decide (m.3 <(0:Int)) then true else bif decide (m.3 >(2:Int)) then true else decide ((↑m.5.length:Int)>r2);let r13:Bool:=isL (iX (m.5,(↑m.5.length:Int),(0:Int),m,()));(r10=true→(false,()) =(aW m,()))∧(r10=false→True∧((0:Int)≤(0:Int)∧(0:Int) <(↑(2:Nat):Int))∧(r5=true→(false,()) =(aW m,()))∧(r5=false→((0:Int)≤r3∧r3 <(↑(2:Nat):Int))∧(r7=true→(false,()) =(aW m,()))∧(r7=false→(r12=true→(false,()) =(aW m,()))∧(r12=false→(r11=true→(false,()) =(aW m,()))∧(r11=false→(r4=true→(false,()) =(aW m,()))∧(r4=false→(r6=true→(false,()) =(aW m,()))∧(r6=false→(r8=true→(false,()) =(aW m,()))∧(r8=false→(r9=true→(false,()) =(aW m,()))∧(r9=false→((fi fun x=>none)∧nh ((0:Int),(0:Int),m.5,(↑m.5.length:Int),(0:Int),())∧gd m.5)∧(r13=true→nU (dflt (Ty.bool.prod Ty.unit)) (iX (m.5,(↑m.5.length:Int),(0:Int),m,())) =(aW m,()))∧(r13=false→(kn (uP (dflt ((Ty.nm Nm.Match).prod Ty.unit)) (iX (m.5,(↑m.5.length:Int),(0:Int),m,()))).1,()) =(aW m,()))))))))))))
 intro r1 r2 r3 r4 r5 r6 r7 r8 r9 r10 r11 r12 r13
 clear_value (hr1:r1=_) (hr2:r2=_) (hr3:r3=_) (hr4:r4=_) (hr5:r5=_) (hr6:r6=_) (hr7:r7=_) (hr8:r8=_) (hr9:r9=_) (hr10:r10=_) (hr11:r11=_) (hr12:r12=_) (hr13:r13=_)
 have er:iX (m.Innings,(m.Innings.length:Int),0,m,())=Ft m (okF m m.Innings 0):=rfl
 have n3:r3=1:=by rw [hr3];rfl
 have e10:r10=!(aC m.Rules==0&&inW m.Stage 1 5):=by
  have h1:decide (m.Stage<1)=!decide (m.Stage≥1):=by by_cases h:m.Stage≥1 <;> simp [h] <;> omega
  have h2:decide (m.Stage>5)=!decide (m.Stage≤5):=by by_cases h:m.Stage≤5 <;> simp [h] <;> omega
  rw [hr10,h1,h2]
  unfold inW
  cases hc:aC m.Rules==0 <;> cases decide (m.Stage≥1) <;> cases decide (m.Stage≤5) <;> simp [bne,hc]
 have hq :∀ k:Int,(bif decide (k<0) then true else decide (k>1000000))=!inW k 0 1000000:=fun k=>by
  have h1:decide (k<0)=!decide (k≥0):=by by_cases h:k≥0 <;> simp [h] <;> omega
  have h2:decide (k>1000000)=!decide (k≤1000000):=by by_cases h:k≤1000000 <;> simp [h] <;> omega
  rw [h1,h2]
  unfold inW
  cases decide (k≥0) <;> cases decide (k≤1000000) <;> rfl
 have ep:C9 m =(r5||r7):=by rw [hr5,hr7,hq,hq];rfl
 have es:jb m =(((((r12||r11)||r4)||r6)||r8)||r9):=by
  rw [hr12,hr11,hr4,hr6,hr8,hr9,hr1,hr2]
  simp only [jb,Bool.cond_true_left,Bool.cond_false_right]
 have hv:aW m =(!r10&&(!C9 m&&(!jb m&&(okF m m.Innings 0&&kn m)))):=by rw [e10];unfold aW;simp only [Bool.not_not,Bool.and_assoc]
 rw [er] at hr13
 rw [er,hv,ep,es,n3]
 clear hr1 hr2 hr3 hr4 hr5 hr6 hr7 hr8 hr9 hr10 hr11 hr12 ep es hv e10 hq
 have hi:nh (0,0,m.Innings,(m.Innings.length:Int),0,()):=⟨rfl,Int.le_refl _,by simp only;omega,hx⟩
 have hm':gd m.Innings:=hm
 cases r10 with
 | true=>simp
 | false=>
 cases r5 with
 | true=>simp
 | false=>
 cases r7 with
 | true=>simp
 | false=>
 cases r12 with
 | true=>simp
 | false=>
 cases r11 with
 | true=>simp
 | false=>
 cases r4 with
 | true=>simp
 | false=>
 cases r6 with
 | true=>simp
 | false=>
 cases r8 with
 | true=>simp
 | false=>
 cases r9 with
 | true=>simp
 | false=>
 cases hF:okF m m.Innings 0 with
 | true=>rw [hF] at hr13;have e:r13=false:=hr13;simp [e,Ft,uP,fi,hi,hm']
 | false=>rw [hF] at hr13;have e:r13=true:=hr13;simp [e,Ft,nU,fi,hi,hm'];rfl
def rm:FuncId×Ctr:=(233,af KE qM aF yF)
theorem AZ:CtrOK Tryz.prog KE 233 (af KE qM aF yF):=by
 refine ar (C:=an [k85,rl] Tryz.f233) (al (.consU tc rfl (.consU AX rfl .nil)) _) mixed (fn:=Tryz.f233) Tryz.func233 (by kernel_rfl) (by kernel_rfl) (by kernel_rfl) (by kernel_rfl) (by kernel_rfl) (by kernel_rfl) (Λ:=fun x=>find [(rid (aG Tryz.f233 0),dX 3 (an [k85,rl] Tryz.f233) (fun _=>none) (aG Tryz.f233 0)),(NC,NR)]) ?_ ?_
 ·rintro ⟨m,⟨⟩⟩ hw hn
  exact LoopsOKp.at (by kernel_rfl) (.cons (by kernel_rfl) (mV 3 (al (.consU tc rfl (.consU AX rfl .nil)) _) mixed (Λ:=fun _=>none) (b:=aG Tryz.f233 0) rfl (fun _ _ _ h=>by cases h)) (.cons (by kernel_rfl) (Ov) .nil))
 ·rintro ⟨m,⟨⟩⟩ hw hn
  exact G7 m (hn _ List.mem_cons_self) (zz (bg hw))
end Go.Proofs.YtffdpnmioidloaaGreatDoor
namespace Go.Proofs.YtffdpnmioidloaaGreatDoor
open Go Go.Mir
attribute [local irreducible] Go.Mir.DT.sat Go.Mir.evPat Go.Mir.RT.sat Go.Mir.evFn
end Go.Proofs.YtffdpnmioidloaaGreatDoor
namespace Go.Proofs.YtffdpnmioidloaaGreatDoor
open Go Go.Mir
attribute [local irreducible] Go.Mir.DT.sat Go.Mir.evPat Go.Mir.RT.sat Go.Mir.evFn
def Fh (m:Match):Int:=W (2*m.Rules.Innings)
end Go.Proofs.YtffdpnmioidloaaGreatDoor
namespace Go.Proofs.YtffdpnmioidloaaGreatDoor
open Go Go.Mir
end Go.Proofs.YtffdpnmioidloaaGreatDoor
namespace Go.Proofs.YtffdpnmioidloaaGreatDoor
open Go Go.Mir
attribute [local irreducible] Go.Mir.DT.sat Go.Mir.evPat Go.Mir.RT.sat Go.Mir.evFn
abbrev qRu:Pat:=bX [.nm .Rules]
def dR (r:Rules):Int:=if r.Overs==0 then 5 else 6
def D8:Den (tyP qRu)→List Prop×Den (tyP qH):=fun x=>([],(dR x.1,()))
theorem tR (r:Rules) :(evPat (an [] Tryz.f309) (fun _=>none) Tryz.f309 qRu qH (r,())).sat fun z_=>z_ =(D8 (r,())).2:=by
 refine cast (by kernel_rfl) (?_ :((r.4 ==(0:Int))=true→((5:Int),()) =(dR r,()))∧((r.4 ==(0:Int))=false→((6:Int),()) =(dR r,())))
 grind [dR]
def ia:FuncId×Ctr:=(309,af KE qRu qH D8)
theorem nk:CtrOK Tryz.prog KE 309 (af KE qRu qH D8):=by
 refine ar (C:=an [] Tryz.f309) (al (CtrsOK.nil) _) mixed (fn:=Tryz.f309) Tryz.func309 (by kernel_rfl) (by kernel_rfl) (by kernel_rfl) (by kernel_rfl) (by kernel_rfl) (by kernel_rfl) (Λ:=fun _ _=>none) ?_ ?_
 ·exact fun _ _ _ _ _ _ _ _ h=>by cases h
 ·rintro ⟨r,⟨⟩⟩ hw hn
  exact tR r
end Go.Proofs.YtffdpnmioidloaaGreatDoor
namespace Go.Proofs.YtffdpnmioidloaaGreatDoor
open Go Go.Mir
attribute [local irreducible] Go.Mir.DT.sat Go.Mir.evPat Go.Mir.RT.sat Go.Mir.evFn
def aQ (m:Match):Prop:=jI m∧m.Innings.length≤1000000∧m.Rules.Power.length≤1000000
abbrev Ce (s:PC0):List PC0:= [.h .str,.h I,.h I,.h I,.h I,.h I,.h I,.h I,.h .bool,.h I,.h I,.h I,.h I,.h (.slice (.nm .Phase)),.h U8,.h I,.h .bool,s,.h I,.h I,.h U8,.h I,.h I]
abbrev qMo:Pat:=⟨[(0,.a (Ce (.c (.osl 0 1))))],[(0,.row 1 (.nm .Innings))],2⟩
abbrev qU:Pat:=bX [.nm .Match,I]
def _root_.Go.Mir.mkM (v1:ByteArray) (v2:Int) (v3:Int) (v4:Int) (v5:Int) (v6:Int) (v7:Int) (v8:Int) (v9:Bool) (v10:Int) (v11:Int) (v12:Int) (v13:Int) (v14:List Phase) (v15:Int) (v16:Int) (v17:Bool) (v18:Int) (v19:Int) (v20:Int) (v21:Int) (v22:Int) (xs:List Innings):Match:=
 { Rules:={ Name:=v1,Side:=v2,Innings:=v3,Overs:=v4,Balls:=v5,Quota:=v6,Wide:=v7,NoBall:=v8,FreeHit:=v9,NewBall:=v10,FollowOn:=v11,Reviews:=v12,Outside:=v13,Power:=v14 },Stage:=v15,First:=v16,Follow:=v17,Innings:=xs,Penalty:=(v18,v19,()),Result:={ Win:=v20,Side:=v21,Margin:=v22 } }
abbrev TM:Type:=ByteArray×Int×Int×Int×Int×Int×Int×Int×Bool×Int×Int×Int×Int×List Phase×Int×Int×Bool×Int×Int×Int×Int×Int×List Innings×Unit
def _root_.Go.Mir.mkX (x:TM):Match:=(mkM x.1 x.2.1 x.2.2.1 x.2.2.2.1 x.2.2.2.2.1 x.2.2.2.2.2.1 x.2.2.2.2.2.2.1 x.2.2.2.2.2.2.2.1 x.2.2.2.2.2.2.2.2.1 x.2.2.2.2.2.2.2.2.2.1 x.2.2.2.2.2.2.2.2.2.2.1 x.2.2.2.2.2.2.2.2.2.2.2.1 x.2.2.2.2.2.2.2.2.2.2.2.2.1 x.2.2.2.2.2.2.2.2.2.2.2.2.2.1 x.2.2.2.2.2.2.2.2.2.2.2.2.2.2.1 x.2.2.2.2.2.2.2.2.2.2.2.2.2.2.2.1 x.2.2.2.2.2.2.2.2.2.2.2.2.2.2.2.2.1 x.2.2.2.2.2.2.2.2.2.2.2.2.2.2.2.2.2.1 x.2.2.2.2.2.2.2.2.2.2.2.2.2.2.2.2.2.2.1 x.2.2.2.2.2.2.2.2.2.2.2.2.2.2.2.2.2.2.2.1 x.2.2.2.2.2.2.2.2.2.2.2.2.2.2.2.2.2.2.2.2.1 x.2.2.2.2.2.2.2.2.2.2.2.2.2.2.2.2.2.2.2.2.2.1 x.2.2.2.2.2.2.2.2.2.2.2.2.2.2.2.2.2.2.2.2.2.2.1)
def Mf:Ty:= .prod (.slice (.nm .Phase)) .unit
def zn:Den Mf→PRes:=fun x=>⟨[x.1.length≤1000000],.osl 0 0,[⟨.nm .Phase,x.1⟩]⟩
def Ar:FuncId×Ctr:=(232,au KE Mf zn)
def ua:Den (tyP qRu)→List Prop×Den (tyP qRu):=fun x=>([x.1.Power.length≤1000000],(x.1,()))
def yq:Den (tyP qM)→List Prop×Den (tyP qMo):=fun x=>([aQ x.1],(x.1.Rules.Name,x.1.Rules.Side,x.1.Rules.Innings,x.1.Rules.Overs,x.1.Rules.Balls,x.1.Rules.Quota,x.1.Rules.Wide,x.1.Rules.NoBall,x.1.Rules.FreeHit,x.1.Rules.NewBall,x.1.Rules.FollowOn,x.1.Rules.Reviews,x.1.Rules.Outside,x.1.Rules.Power,x.1.Stage,x.1.First,x.1.Follow,x.1.Penalty.1,x.1.Penalty.2.1,x.1.Result.Win,x.1.Result.Side,x.1.Result.Margin,x.1.Innings,()))
def pK (r:Rules):Match:=if aC r != 0 then Match.zero else { Match.zero with Rules:=r,Stage:=1 }
def OR:Den (tyP qRu)→List Prop×Den (tyP qU):=fun x=>([],(pK x.1,aC x.1,()))
abbrev PL:List (Nat×PB):= [(0,.dat (.nm .Match)),(1,.dat (.nm .Match)),(2,.row 3 (.nm .Innings))]
abbrev qCl:Pat:=⟨[(1,.c (.ptr 0 0)),(2,.c (.ptr 1 0)),(3,.c (.osl 2 3)),(11,.h KU),(12,.h I),(13,.h I)],PL,4⟩
abbrev xCl:List (Lf×Pat):= [(.ext 0,⟨[(1,.c (.ptr 0 0)),(2,.c (.ptr 1 0)),(3,.c (.osl 2 3))],PL,4⟩)]
abbrev TCl:Type:=List Innings×Int×Int×Match×Match×List Innings×Unit
def vA (x:TCl):Prop:=(x.2.1 =(x.1.length:Int)∧0≤x.2.2.1∧x.2.2.1≤x.2.1∧x.1.length≤1000000)∧gd x.1∧(x.2.2.2.2.2.1.length:Int)≤x.2.2.1
def Gd (x:TCl):Nat:=(x.2.1 - x.2.2.1).toNat
def ns (x:TCl):Match×Match×List Innings×Unit:=(x.2.2.2.1,x.2.2.2.2.1,x.2.2.2.2.2.1++x.1.drop x.2.2.1.toNat,())
theorem nK {r:Rules} (h:aC r=0):1≤r.Innings∧r.Innings≤2:=by
 have hr:cr r=true:=by
  cases hr:cr r with
  | true=>rfl
  | false=>
   unfold aC at h
   cases hn:lU r.Name <;> simp [hn,hr] at h
 simp only [cr,aX,Bool.and_eq_true,decide_eq_true_eq] at hr
 omega
theorem qg {r:Rules} (h:aC r=0):r.Power.length≤8:=by
 unfold aC at h
 cases hn:lU r.Name with
 | false=>simp [hn] at h
 | true=>
  cases hr:cr r with
  | false=>simp [hn,hr] at h
  | true=>
   cases ha:wW r with
   | true=>simp [hn,hr,ha] at h
   | false=>
    cases hc:xd r with
    | true=>simp [hn,hr,ha,hc] at h
    | false=>
     simp [hn,hr,ha,hc] at h
     unfold gx at h
     split at h
     ·cases h
     ·omega
theorem Dj (x:List Phase) (hs:x.length≤1000000) :(evFn (an [] Tryz.f232) (fun _=>none) Tryz.f232 (bo Mf (x,()))).sat fun v' rows=>leV v' (zn (x,())).v∧rows =(zn (x,())).rows:=by
 refine cast (by kernel_rfl) (?_ :(x.isEmpty=true→(nat_lit 0=nat_lit 0∧nat_lit 0=nat_lit 0)∧ [RowD.mk (Ty.nm Nm.Phase) []]=[RowD.mk (Ty.nm Nm.Phase) x])∧((0:Nat)+x.length) *(24:Nat)≤(70368744177664:Nat)∧(nat_lit 0=nat_lit 0∧nat_lit 0=nat_lit 0)∧ [RowD.mk (Ty.nm Nm.Phase) ([]++x)]=[RowD.mk (Ty.nm Nm.Phase) x])
 refine ⟨fun h=>⟨⟨rfl,rfl⟩,?_⟩,?_,⟨rfl,rfl⟩,rfl⟩
 ·have:x=[]:=List.isEmpty_iff.1 h
  subst this;rfl
 ·omega
theorem Gn:CtrOK Tryz.prog KE 232 (au KE Mf zn):=by
 refine ba (C:=an [] Tryz.f232) (al (CtrsOK.nil) _) mixed (fn:=Tryz.f232) Tryz.func232 (by kernel_rfl) (by kernel_rfl) (by kernel_rfl) (Λ:=fun _ _=>none) ?_ ?_ ?_
 ·exact fun _ _ _ _ _ _ _ _ h=>by cases h
 ·rintro ⟨x,⟨⟩⟩
  exact of_decide_eq_true (by kernel_rfl)
 ·rintro ⟨x,⟨⟩⟩ hw hn
  exact Dj x (hn _ (List.mem_singleton.2 rfl))
theorem DE (r:Rules) (hs:r.Power.length≤1000000) :(evPat (an [Ar] Tryz.f185) (fun _=>none) Tryz.f185 qRu qRu (r,())).sat fun z_=>z_ =(ua (r,())).2:=by
 refine cast (by kernel_rfl) (?_:r.14.length≤(1000000:Nat)∧(r,()) =(r,()))
 exact ⟨hs,rfl⟩
def oN:FuncId×Ctr:=(185,af KE qRu qRu ua)
theorem wg:CtrOK Tryz.prog KE 185 (af KE qRu qRu ua):=by
 refine ar (C:=an [Ar] Tryz.f185) (al (.consU Gn rfl .nil) _) mixed (fn:=Tryz.f185) Tryz.func185 (by kernel_rfl) (by kernel_rfl) (by kernel_rfl) (by kernel_rfl) (by kernel_rfl) (by kernel_rfl) (Λ:=fun _ _=>none) ?_ ?_
 ·exact fun _ _ _ _ _ _ _ _ h=>by cases h
 ·rintro ⟨r,⟨⟩⟩ hw hn
  exact DE r (hn _ List.mem_cons_self)
noncomputable def lpCl:Lp:=(⟨0,an [dx] Tryz.f235,(fun _=>none),(aG Tryz.f235 0),qCl,xCl⟩:Lp)
theorem O8 (xs:List Innings) (n:Int) (i:Int) (m:Match) (z:Match) (l:List Innings) (hi:vA (xs,n,i,m,z,l,())) :(Go.Mir.stepG lpCl ns (fun y:Den (tyP lpCl.q)=>vA y∧Gd y<Gd (xs,n,i,m,z,l,())) (xs,n,i,m,z,l,())∧Go.Mir.stepE lpCl ns (xs,n,i,m,z,l,())=ns (xs,n,i,m,z,l,())):=by
 refine cast (by kernel_rfl) (?_:let r1:List Innings:= [xs.getD i.toNat (dflt (Ty.nm Nm.Innings))];((decide (i<n)=true→((0:Int)≤i∧i <(↑xs.length:Int))∧ah (xs.getD i.toNat (dflt (Ty.nm Nm.Innings)))∧(l.length+r1.length) *(304:Nat)≤(70368744177664:Nat)∧vA (xs,n,IntKind.i64.wrap (i +(1:Int)),m,z,l++r1,())∧Gd (xs,n,IntKind.i64.wrap (i +(1:Int)),m,z,l++r1,())<Gd (xs,n,i,m,z,l,()))∧(decide (i<n)=false→True))∧(bif decide (i<n) then ns (xs,n,IntKind.i64.wrap (i +(1:Int)),m,z,l++r1,()) else (m,z,l,()))=ns (xs,n,i,m,z,l,()))
 intro r1
 clear_value (hr1:r1=_)
 obtain ⟨⟨h1,h2,h3,h4⟩,hs,h5⟩:=hi
 simp only at h1 h2 h3 h4 h5 hs
 refine ⟨⟨fun h=>?_,fun _=>trivial⟩,?_⟩
 ·have h:i<n:=of_decide_eq_true h
  rw [bd (n:=i+1) (by omega) (by omega),hr1]
  have hl:i.toNat<xs.length:=by omega
  refine ⟨⟨h2,by omega⟩,hs _ (lH hl _),?_,⟨⟨h1,by simp only;omega,by simp only;omega,h4⟩,hs,?_⟩,by simp only [Gd];omega⟩
  ·simp only [List.length_singleton];omega
  ·simp only [List.length_append,List.length_singleton];omega
 ·by_cases h:i<n
  ·have e:xs.drop i.toNat=xs.getD i.toNat (dflt (Ty.nm Nm.Innings))::xs.drop (i+1).toNat:=cZ h2 (by omega) _
   rw [decide_eq_true h,cond_true,bd (n:=i+1) (by omega) (by omega)]
   simp only [ns]
   rw [e,hr1,List.append_assoc,List.singleton_append]
  ·rw [decide_eq_false h,cond_false]
   simp only [ns]
   rw [cq (l:=xs) (by omega),List.append_nil]
noncomputable def NL:LoopSum:=bb lpCl ns vA
noncomputable def Nw:Nat:=rid (aG Tryz.f235 0)
theorem Om:LoopOKp Tryz.prog 0 Tryz.f235.ntmps (aG Tryz.f235 0) (bb lpCl ns vA):=
 bJ lpCl (al (.consU gD rfl .nil) _) mixed (fun b hb S hS=>by cases hS) ns vA Gd (fun |⟨xs,n,i,m,z,l,⟨⟩⟩,hi=>O8 xs n i m z l hi)
theorem G2 (m:Match) (hs:aQ m) :(evPat (an [oN] Tryz.f235) (find [(Nw,NL)]) Tryz.f235 qM qMo (m,())).sat fun z_=>z_ =(yq (m,())).2:=by
 refine cast (by kernel_rfl) (?_:m.1.14.length≤(1000000:Nat)∧((fi fun x=>none)∧((↑m.5.length:Int) =(↑m.5.length:Int)∧(0:Int)≤(0:Int)∧(0:Int)≤(↑m.5.length:Int)∧m.5.length≤(1000000:Nat))∧gd m.5∧(↑(0:Nat):Int)≤(0:Int))∧(m.1.1,m.1.2,m.1.3,m.1.4,m.1.5,m.1.6,m.1.7,m.1.8,m.1.9,m.1.10,m.1.11,m.1.12,m.1.13,m.1.14,m.2,m.3,m.4,m.6.1,m.6.2.1,m.7.1,m.7.2,m.7.3,[]++List.drop (Int.toNat (0:Int)) m.5,()) =(m.1.1,m.1.2,m.1.3,m.1.4,m.1.5,m.1.6,m.1.7,m.1.8,m.1.9,m.1.10,m.1.11,m.1.12,m.1.13,m.1.14,m.2,m.3,m.4,m.6.1,m.6.2.1,m.7.1,m.7.2,m.7.3,m.5,()))
 exact ⟨hs.2.2,⟨rfl,⟨rfl,Int.le_refl _,by omega,hs.2.1⟩,hs.1,Int.le_refl _⟩,rfl⟩
def E7:FuncId×Ctr:=(235,af KE qM qMo yq)
theorem Jg:CtrOK Tryz.prog KE 235 (af KE qM qMo yq):=by
 refine ar (C:=an [oN] Tryz.f235) (al (.consU wg rfl .nil) _) mixed (fn:=Tryz.f235) Tryz.func235 (by kernel_rfl) (by kernel_rfl) (by kernel_rfl) (by kernel_rfl) (by kernel_rfl) (by kernel_rfl) (Λ:=fun x=>find [(Nw,NL)]) ?_ ?_
 ·rintro ⟨m,⟨⟩⟩ hw hn
  exact LoopsOKp.at (by kernel_rfl) (.cons (by kernel_rfl) (Om) .nil)
 ·rintro ⟨m,⟨⟩⟩ hw hn
  exact G2 m (hn _ List.mem_cons_self)
theorem MK (r:Rules) :(evPat (an [k85,oN] Tryz.f128) (fun _=>none) Tryz.f128 qRu qU (r,())).sat fun z_=>z_ =(OR (r,())).2:=by
 refine cast (by kernel_rfl) (?_:let r1:Mir.Result:=Result.mk (0:Int) (0:Int) (0:Int);((aC r !=(0:Int))=true→(Match.mk (Rules.mk ByteArray.empty (0:Int) (0:Int) (0:Int) (0:Int) (0:Int) (0:Int) (0:Int) false (0:Int) (0:Int) (0:Int) (0:Int) []) (0:Int) (0:Int) false [] ((0:Int),(0:Int),()) r1,aC r,()) =(pK r,aC r,()))∧((aC r !=(0:Int))=false→r.14.length≤(1000000:Nat)∧(Match.mk r (1:Int) (0:Int) false [] ((0:Int),(0:Int),()) r1,(0:Int),()) =(pK r,aC r,())))
 intro r1
 clear_value (hr1:r1=_)
 subst hr1
 refine ⟨fun h=>?_,fun h=>⟨?_,?_⟩⟩
 ·simp only [pK,h,if_true];rfl
 ·have:=qg (r:=r) (by simpa using h);omega
 ·have h0:aC r=0:=by simpa using h
  simp only [pK,h0];rfl
def Ng:FuncId×Ctr:=(128,af KE qRu qU OR)
theorem OK:CtrOK Tryz.prog KE 128 (af KE qRu qU OR):=by
 refine ar (C:=an [k85,oN] Tryz.f128) (al (.consU tc rfl (.consU wg rfl .nil)) _) mixed (fn:=Tryz.f128) Tryz.func128 (by kernel_rfl) (by kernel_rfl) (by kernel_rfl) (by kernel_rfl) (by kernel_rfl) (by kernel_rfl) (Λ:=fun _ _=>none) ?_ ?_
 ·exact fun _ _ _ _ _ _ _ _ h=>by cases h
 ·rintro ⟨r,⟨⟩⟩ hw hn
  exact MK r
end Go.Proofs.YtffdpnmioidloaaGreatDoor
namespace Go.Proofs.YtffdpnmioidloaaGreatDoor
open Go Go.Mir
def bj (m:Match):Innings:=m.Innings.getD (m.Innings.length - 1) Innings.zero
def uz (w s k:Int):Mir.Result:={ Win:=w,Side:=s,Margin:=k }
def vq (m:Match):Bool:=(m.Innings.length:Int)==Fh m
def mw (m:Match):Bool:=(m.Innings.length:Int)==3&&decide (lj m (bj m).Side<lj m (dP (bj m).Side))
def HY (m:Match) (x:Innings):Mir.Result:=
 if decide (x.Runs≥x.Target) then uz 2 x.Side (W (W (m.Rules.Side - 1) - x.Wickets))
 else if x.Runs==W (x.Target - 1) then uz 4 0 0 else uz 1 (dP x.Side) (W (W (x.Target - 1) - x.Runs))
def cI (m:Match):Mir.Result:=
 if !aW m ||(m.Innings.length:Int)==0 then Mir.Result.zero
 else if (bj m).Ending==5 then uz (dR m.Rules) 0 0
 else if (bj m).Ending==0 then Mir.Result.zero
 else if vq m then HY m (bj m)
 else if mw m then uz 3 (dP (bj m).Side) (W (lj m (dP (bj m).Side) - lj m (bj m).Side))
 else Mir.Result.zero
def Ni (m:Match):Int:=W (lj m m.First - lj m (dP m.First))
def xb (m:Match):Bool:=(m.Innings.length:Int)==2&&(decide (m.Rules.FollowOn>0)&&decide (Ni m≥m.Rules.FollowOn))
def uj (m:Match) (s:Int):Match:={ m with Stage:=s }
def M9 (m:Match):Match:={ m with Stage:=5,Result:=cI (uj m 5) }
def ak (m:Match):Match:=
 if m.Stage != 3 ||(bj m).Ending==0 then m
 else if vq m||mw m then M9 m
 else if xb m then uj m 4 else uj m 2
def gA (s:Int) (xs:List Innings):Nat→Option Nat
 | 0=>none
 | k+1=>if (xs.getD k Innings.zero).Side==s then some k else gA s xs k
def B8 (m:Match) (s:Int):Match:={ m with Penalty:=if s==1 then (W (m.Penalty.1+5),m.Penalty.2.1,()) else (m.Penalty.1,W (m.Penalty.2.1+5),()) }
def uc (m:Match) (k:Nat) (x:Innings):Match:={ m with Innings:=m.Innings.set k x }
def NY (m:Match) (s:Int):Option Nat→Match
 | some k=>uc m k (A7 (m.Innings.getD k Innings.zero))
 | none=>B8 m s
def aq (m:Match) (s:Int):Match:=NY m s (gA s m.Innings m.Innings.length)
def Gm (m:Match):Nat:=m.Innings.length - 1
def cL (m:Match) (e:Mir.Event):Int:=if m.Stage != 3 then 1 else cE m.Rules (bj m) e
def gO (m:Match) (e:Mir.Event):Match:=uc m (Gm m) (cF m.Rules (bj m) e)
def pq (m:Match) (e:Mir.Event):Bool:=e.Kind==13&&e.Side !=(cF m.Rules (bj m) e).Side
def aj (m:Match) (e:Mir.Event):Match:=if cL m e != 0 then m else if pq m e then aq (gO m e) e.Side else gO m e
def bN (m:Match):Int:=dc m m.Innings.length
def nn (m:Match) (s:Int):Int:=if s==1 then m.Penalty.1 else m.Penalty.2.1
def nF (m:Match):Int:=mY m.Rules (bN m) (fI m (bN m)) (nn m (bN m))
def nG (m:Match):Innings:=mZ m.Rules (bN m) (fI m (bN m)) (nn m (bN m))
def bf (m:Match) (e:Mir.Event):Int:=if m.Stage != 2 then 1 else if nF m != 0 then 1 else cE m.Rules (nG m) e
def zK (m:Match) (s:Int):Match:={ m with Penalty:=if s==1 then (0,m.Penalty.2.1,()) else (m.Penalty.1,0,()) }
def l6 (m:Match) (e:Mir.Event):Match:={ zK m (bN m) with Innings:=m.Innings++[cF m.Rules (nG m) e],Stage:=3 }
def ab (m:Match) (e:Mir.Event):Match:=if bf m e != 0 then m else l6 m e
def KL (m:Match) (e:Mir.Event):Match:={ m with First:=if e.Yes then e.Side else dP e.Side,Stage:=2 }
def EF (m:Match) (e:Mir.Event):Match:={ m with Follow:=e.Yes,Stage:=2 }
def bq (m:Match):Match:=if m.Stage==3 then uc m (Gm m) { bj m with Ending:=5 } else m
def dt (m:Match):Match:={ bq m with Stage:=5,Result:=uz (dR m.Rules) 0 0 }
def bm (m:Match) (e:Mir.Event):Int:=
 if e.Kind==1 then (if m.Stage != 1 then 1 else 0) else if e.Kind==2 then bf m e
 else if e.Kind==12 then (if m.Stage != 4 then 1 else if e.Side != m.First then 2 else 0) else if e.Kind==16 then 0 else cL m e
def fY (m:Match) (e:Mir.Event):Match:=
 if e.Kind==1 then KL m e else if e.Kind==2 then ab m e else if e.Kind==12 then EF m e else if e.Kind==16 then dt m else aj m e
def ag (m:Match) (e:Mir.Event):Match:=if bm m e != 0 then m else fY m e
def cp (m:Match) (e:Mir.Event):Int:=if !aW m||bB e != 0 then 1 else if m.Stage==5 then 26 else bm m e
def bt (m:Match) (e:Mir.Event):Match:=if cp m e != 0 then m else ak (ag m e)
theorem BX {m:Match} (h:aW m=true):aC m.Rules=0:=by
 simp only [aW,Bool.and_eq_true,beq_iff_eq] at h
 exact h.1
theorem IR {m:Match} (h:aC m.Rules=0):Fh m=2*m.Rules.Innings:=by
 have:=nK h
 unfold Fh
 exact bd (by omega) (by omega)
theorem qJ {m:Match} (h:aW m=true):jb m=false:=by
 simp only [aW,Bool.and_eq_true,Bool.not_eq_true'] at h
 exact h.2.2.2.1
theorem qa {m:Match} (h:aW m=true) :(m.Innings.length:Int)≤2*m.Rules.Innings∧m.Innings.length≤4:=by
 have hc:=BX h
 have h1:=qJ h
 have h2:=nK hc
 have h3:=IR hc
 unfold Fh W at h3
 simp only [jb,Bool.or_eq_false_iff,decide_eq_false_iff_not,W,h3] at h1
 omega
theorem gh {m:Match} (h:aW m=true) (h3:m.Stage=3):0<m.Innings.length:=by
 simp only [aW,kn,Bool.and_eq_true] at h
 have h4:=h.2.2.2.2.2
 simp only [h3,Bool.or_eq_true,bne_iff_ne,ne_eq,not_true_eq_false,false_or,decide_eq_true_eq] at h4
 omega
theorem BZ {m:Match} (h:aW m=true) (h2:m.Stage=2):m.First=1∨m.First=2:=by
 have h1:=qJ h
 simp only [jb,Bool.or_eq_false_iff,Bool.and_eq_false_iff,decide_eq_false_iff_not,h2] at h1
 obtain ⟨⟨⟨⟨⟨⟨q1,q2,_⟩,q3⟩,_⟩,_⟩,_⟩,_⟩:=h1
 simp at q3
 omega
theorem HG {m:Match} (h:aW m=true) (h2:m.Stage=2):bN m=1∨bN m=2:=by
 unfold bN dc dP W
 rcases BZ h h2 with h|h <;> rw [h] <;> split <;> decide
theorem wL {l:List Innings} (h:gd l) (k:Nat) {y:Innings} (hy:ah y):gd (l.set k y):=fun z hz=>by
 rcases List.mem_or_eq_of_mem_set hz with h1|h1
 ·exact h z h1
 ·rw [h1];exact hy
theorem Hi {l:List Innings} (h:gd l) {y:Innings} (hy:ah y):gd (l++[y]):=fun z hz=>by
 rcases List.mem_append.1 hz with h1|h1
 ·exact h z h1
 ·rw [List.mem_singleton.1 h1];exact hy
theorem Ei {x:Innings} (h:ah x):ah (A7 x):=h
theorem mj {r:Rules} {x:Innings} (e:Mir.Event) (h:ah x):ah (cF r x e):=by
 cases hL:cE r x e != 0 with
 | true=>rw [pf hL];exact h
 | false=>
  have h0:cE r x e=0:=by simpa using hL
  have hv:bR r x=true:=by
   cases hv:bR r x with
   | true=>rfl
   | false=>simp [cE,hv] at h0
  have hp:ah (nT (aA r x e) e):=tx e (mq hv)
  have:cF r x e=ou r (nT (aA r x e) e):=by unfold cF;rw [hL];rfl
  rw [this]
  unfold ou
  split
  ·exact hp
  ·exact hp
theorem nH (r:Rules) (s t p:Int):ah (mZ r s t p):=by
 unfold mZ
 split
 ·simp [ah,Innings.zero]
 ·rename_i h
  have h0:mY r s t p=0:=by simpa using h
  have hc:aC r=0:=by
   unfold mY at h0
   split at h0
   ·exact h0
   ·rename_i h1;simpa using h1
  have:=(fc hc).1
  simp only [ah,KX,zL,Innings.zero,List.length_replicate,List.length_nil]
  omega
theorem kj {m:Match} (h:jI m):ah (bj m):=by
 unfold bj
 by_cases hl:m.Innings.length - 1<m.Innings.length
 ·exact h _ (lH hl _)
 ·rw [List.getD_eq_getElem?_getD,List.getElem?_eq_none (by omega)];simp [ah,Innings.zero]
theorem IY {xs:List Innings} (h:0<xs.length) (h2:xs.length≤1000000) :(W ((xs.length:Int) - 1)).toNat=xs.length - 1:=by
 unfold W
 rw [bd (n:=(xs.length:Int) - 1) (by omega) (by omega)]
 omega
end Go.Proofs.YtffdpnmioidloaaGreatDoor
namespace Go.Proofs.YtffdpnmioidloaaGreatDoor
open Go Go.Mir
attribute [local irreducible] Go.Mir.DT.sat Go.Mir.evPat Go.Mir.RT.sat Go.Mir.evFn
abbrev MB:Pat:=bX [.nm .Result]
def tW:Den (tyP qM)→List Prop×Den (tyP MB):=fun x=>([jI x.1],(cI x.1,()))
def QM (m:Match):Prop:=0<m.Innings.length∧m.Innings.length≤1000000
theorem BJ (m:Match) (hm:jI m) :(evPat (an [rm,gr,ia,mH] Tryz.f284) (fun _=>none) Tryz.f284 qM MB (m,())).sat fun z_=>z_ =(tW (m,())).2:=by
 refine cast (by kernel_rfl) (?_:let r1:Int:=IntKind.i64.wrap ((↑m.5.length:Int) - (1:Int));let r2:Bool:=bif !aW m then true else (↑m.5.length:Int) ==(0:Int);let r3:Bool:=(↑m.5.length:Int)==IntKind.i64.wrap ((2:Int)*m.1.3);let r4:Innings:=m.5.getD r1.toNat (dflt (Ty.nm Nm.Innings));let r5:Int:=dP r4.1;let r6:Int:=lj m r4.1;let r7:Int:=lj m r5;let r8:Bool:=r4.23 ==(5:Int);let r9:Bool:=r4.23 ==(0:Int);let r10:Int:=IntKind.i64.wrap (r4.2 - (1:Int));let r11:Bool:=bif r3 then r4.4==r10 else false;let r12:Bool:=bif (↑m.5.length:Int) ==(3:Int) then decide (r6<r7) else false;let r13:Bool:=bif r3 then decide (r4.4≥r4.2) else false;(jI m∧((!aW m)=true→True)∧((!aW m)=false→True))∧(true=true→(r2=true→(Result.mk (0:Int) (0:Int) (0:Int),()) =(cI m,()))∧(r2=false→((0:Int)≤r1∧r1 <(↑m.5.length:Int))∧(r8=true→(Result.mk (dR m.1) (0:Int) (0:Int),()) =(cI m,()))∧(r8=false→(r9=true→(Result.mk (0:Int) (0:Int) (0:Int),()) =(cI m,()))∧(r9=false→(r13=true→(Result.mk (2:Int) r4.1 (IntKind.i64.wrap (IntKind.i64.wrap (m.1.2 - (1:Int)) - r4.5)),()) =(cI m,()))∧(r13=false→(r11=true→(Result.mk (4:Int) (0:Int) (0:Int),()) =(cI m,()))∧(r11=false→(r3=true→(Result.mk (1:Int) r5 (IntKind.i64.wrap (r10 - r4.4)),()) =(cI m,()))∧(r3=false→(r12=true→(Result.mk (3:Int) r5 (IntKind.i64.wrap (r7 - r6)),()) =(cI m,()))∧(r12=false→(Result.mk (0:Int) (0:Int) (0:Int),()) =(cI m,()))))))))))
 intro r1 r2 r3 r4 r5 r6 r7 r8 r9 r10 r11 r12 r13
 clear_value (hr1:r1=_) (hr2:r2=_) (hr3:r3=_) (hr4:r4=_) (hr5:r5=_) (hr6:r6=_) (hr7:r7=_) (hr8:r8=_) (hr9:r9=_) (hr10:r10=_) (hr11:r11=_) (hr12:r12=_) (hr13:r13=_)
 have ev:r2 =(!aW m ||(m.Innings.length:Int)==0):=by rw [hr2];cases aW m <;> rfl
 refine ⟨⟨hm,fun _=>trivial,fun _=>trivial⟩,fun _=>⟨fun h=>?_,fun h=>?_⟩⟩
 ·have:cI m=Mir.Result.zero:=by unfold cI;rw [←ev,h];rfl
  rw [this];rfl
 ·have hv:aW m=true∧m.Innings.length≠0:=by rw [ev] at h;simpa using h
  have h4:=(qa hv.1).2
  have e1:r1.toNat=m.Innings.length - 1:=by rw [hr1];exact IY (by omega) (by omega)
  have e0:r1 =(m.Innings.length:Int) - 1:=by rw [hr1];exact bd (by omega) (by omega)
  have e4:r4=bj m:=by rw [hr4,e1];rfl
  subst e4
  have e12:r12=mw m:=by rw [hr12,hr6,hr7,hr5];unfold mw;cases (m.Innings.length:Int)==3 <;> rfl
  have e3:r3=vq m:=hr3
  have hO:cI m=if r8 then uz (dR m.Rules) 0 0 else if r9 then Mir.Result.zero else if r3 then HY m (bj m) else if r12 then uz 3 r5 (W (r7 - r6)) else Mir.Result.zero:=by
   rw [e12,e3,hr8,hr9,hr5,hr6,hr7,hr5];unfold cI;rw [←ev,h];rfl
  have hF:HY m (bj m)=if decide ((bj m).Runs≥(bj m).Target) then uz 2 (bj m).Side (W (W (m.Rules.Side - 1) - (bj m).Wickets)) else if (bj m).Runs==r10 then uz 4 0 0 else uz 1 r5 (W (r10 - (bj m).Runs)):=by rw [hr10,hr5];rfl
  rw [hO,hF]
  clear hO hF e12 e3 hr1 hr2 hr3 hr4 hr5 hr6 hr7 hr8 hr9 hr10 hr12 ev
  refine ⟨⟨by omega,by omega⟩,fun a=>?_,fun a=>⟨fun b=>?_,fun b=>⟨fun c=>?_,fun c=>⟨fun d=>?_,fun d=>⟨fun f=>?_,fun f=>⟨fun g=>?_,fun g=>?_⟩⟩⟩⟩⟩⟩
  ·rw [a];rfl
  ·rw [a,b];rfl
  ·rw [c] at hr13
   cases r3 with
   | false=>cases hr13
   | true=>rw [a,b];simp only [cond_true] at hr13;rw [←hr13];rfl
  ·rw [c] at hr13
   rw [d] at hr11
   cases r3 with
   | false=>cases hr11
   | true=>rw [a,b];simp only [cond_true] at hr13 hr11;rw [←hr13,←hr11];rfl
  ·subst f
   rw [c] at hr13
   rw [d] at hr11
   rw [a,b];simp only [cond_true] at hr13 hr11;rw [←hr13,←hr11];rfl
  ·rw [a,b,f,g];rfl
  ·rw [a,b,f,g];rfl
def vP:FuncId×Ctr:=(284,af KE qM MB tW)
theorem CY:CtrOK Tryz.prog KE 284 (af KE qM MB tW):=by
 refine ar (C:=an [rm,gr,ia,mH] Tryz.f284) (al (.consU AZ rfl (.consU l4 rfl (.consU nk rfl (.consU tp rfl .nil)))) _) mixed (fn:=Tryz.f284) Tryz.func284 (by kernel_rfl) (by kernel_rfl) (by kernel_rfl) (by kernel_rfl) (by kernel_rfl) (by kernel_rfl) (Λ:=fun _ _=>none) ?_ ?_
 ·exact fun _ _ _ _ _ _ _ _ h=>by cases h
 ·rintro ⟨m,⟨⟩⟩ hw hn
  exact BJ m (hn _ List.mem_cons_self)
end Go.Proofs.YtffdpnmioidloaaGreatDoor
