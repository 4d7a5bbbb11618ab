/- Texts of the mirror and contracts, put together. -/
import Derived.Test.YtffdpnmioidloaaGreatDoorPY4
import Derived.Shelf.Small.Strs
namespace Go.Proofs.YtffdpnmioidloaaGreatDoor
open Go Go.Mir
attribute [local irreducible] Go.Mir.RT.sat Go.Mir.evFn Go.Mir.stepObl
theorem Qc (n:Int) (lo:Int) (hi:Int) :(evFn (cf8 [] Tryz.f205) (fun _=>none) Tryz.f205 (bo LF (n,lo,hi,()))).sat fun v' rows=>leV v' (y4 (n,lo,hi,())).v∧rows =(y4 (n,lo,hi,())).rows:=by
 refine cast (by kernel_rfl) (?_ :(bif decide (n≥lo) then decide (n≤hi) else false)=aX n lo hi∧([]:List RowD)=[])
 simp only [aX];grind
theorem NY:CtrOK Tryz.prog K8 205 (ar K8 LF y4):=by
 refine ba (C:=cf8 [] Tryz.f205) (bG (CtrsOK.nil) _) mixed (fn:=Tryz.f205) Tryz.func205 (by kernel_rfl) (by kernel_rfl) (by kernel_rfl) (Λ:=fun _ _=>none) ?_ ?_ ?_
 ·exact fun _ _ _ _ _ _ _ _ h=>by cases h
 ·rintro ⟨n,lo,hi,⟨⟩⟩
  exact of_decide_eq_true (by kernel_rfl)
 ·rintro ⟨n,lo,hi,⟨⟩⟩ hw hn
  exact Qc n lo hi
theorem P4 (x:Innings) (p:Int) :(evFn (cf8 [] Tryz.f393) (fun _=>none) Tryz.f393 (bo jR (x,p,()))).sat fun v' rows=>leV v' (yT (x,p,())).v∧rows =(yT (x,p,())).rows:=by
 refine cast (by kernel_rfl) (?_ :(bif decide (p≥(1:Int)) then decide (p≤(↑x.16.length:Int)) else false)=bF x p∧([]:List RowD)=[])
 simp only [bF];grind
theorem NX:CtrOK Tryz.prog K8 393 (ar K8 jR yT):=by
 refine ba (C:=cf8 [] Tryz.f393) (bG (CtrsOK.nil) _) mixed (fn:=Tryz.f393) Tryz.func393 (by kernel_rfl) (by kernel_rfl) (by kernel_rfl) (Λ:=fun _ _=>none) ?_ ?_ ?_
 ·exact fun _ _ _ _ _ _ _ _ h=>by cases h
 ·rintro ⟨x,p,⟨⟩⟩
  exact of_decide_eq_true (by kernel_rfl)
 ·rintro ⟨x,p,⟨⟩⟩ hw hn
  exact P4 x p
theorem P3 (x:Innings) (hs:ah x) :(evFn (cf8 [k45,k90,k91] Tryz.f373) (fun _=>none) Tryz.f373 (bo psI (x,()))).sat fun v' rows=>leV v' (gP (x,())).v∧rows =(gP (x,())).rows:=by
 refine cast (by kernel_rfl) (?_:x.11.length≤(1000000:Nat)∧x.13.length≤(1000000:Nat)∧x.14.length≤(1000000:Nat)∧x.16.length≤(1000000:Nat)∧x.21.length≤(1000000:Nat)∧(x.1=x.1∧x.2=x.2∧x.3=x.3∧x.4=x.4∧x.5=x.5∧x.6.1=x.6.1∧x.6.2=x.6.2∧x.6.3=x.6.3∧x.6.4=x.6.4∧x.6.5=x.6.5∧x.7=x.7∧x.8=x.8∧x.9=x.9∧x.10=x.10∧(nat_lit 0=nat_lit 0∧nat_lit 0=nat_lit 0)∧x.12=x.12∧(nat_lit 1=nat_lit 1∧nat_lit 1=nat_lit 1)∧(nat_lit 2=nat_lit 2∧nat_lit 2=nat_lit 2)∧x.15=x.15∧(nat_lit 3=nat_lit 3∧nat_lit 3=nat_lit 3)∧x.17=x.17∧x.18=x.18∧x.19=x.19∧x.20=x.20∧(nat_lit 4=nat_lit 4∧nat_lit 4=nat_lit 4)∧x.22.1=x.22.1∧x.22.2.1=x.22.2.1∧x.23=x.23∧True)∧ [RowD.mk (Ty.int IntKind.u8) x.11,RowD.mk (Ty.int IntKind.i64) x.13,RowD.mk (Ty.int IntKind.i64) x.14,RowD.mk (Ty.int IntKind.i64) x.16,RowD.mk Ty.bool x.21]=[RowD.mk (Ty.int IntKind.u8) x.11,RowD.mk (Ty.int IntKind.i64) x.13,RowD.mk (Ty.int IntKind.i64) x.14,RowD.mk (Ty.int IntKind.i64) x.16,RowD.mk Ty.bool x.21])
 obtain ⟨h1,h2,h3,h4,h5⟩:=hs
 simp [h1,h2,h3,h4,h5]
theorem NW:CtrOK Tryz.prog K8 373 (ar K8 psI gP):=by
 refine ba (C:=cf8 [k45,k90,k91] Tryz.f373) (bG (.cons K4 (.cons K9 (.cons La .nil))) _) mixed (fn:=Tryz.f373) Tryz.func373 (by kernel_rfl) (by kernel_rfl) (by kernel_rfl) (Λ:=fun _ _=>none) ?_ ?_ ?_
 ·exact fun _ _ _ _ _ _ _ _ h=>by cases h
 ·rintro ⟨x,⟨⟩⟩
  exact of_decide_eq_true (by kernel_rfl)
 ·rintro ⟨x,⟨⟩⟩ hw hn
  exact P3 x (hn _ (List.mem_singleton.2 rfl))
theorem Qa (r:Rules) :(evFn (cf8 [k97] Tryz.f160) (fun _=>none) Tryz.f160 (bo qJ (r,()))).sat fun v' rows=>leV v' (yY (r,())).v∧rows =(yY (r,())).rows:=by
 refine cast (by kernel_rfl) (?_ :(bif aX r.2 (2:Int) (11:Int) then bif aX r.3 (1:Int) (2:Int) then bif aX r.4 (0:Int) (90:Int) then bif aX r.5 (4:Int) (8:Int) then bif aX r.6 (0:Int) (90:Int) then bif aX r.7 (1:Int) (5:Int) then bif aX r.8 (1:Int) (5:Int) then bif aX r.10 (0:Int) (200:Int) then bif aX r.11 (0:Int) (1000:Int) then bif aX r.12 (0:Int) (9:Int) then aX r.13 (0:Int) (11:Int) else false else false else false else false else false else false else false else false else false else false)=cq r∧([]:List RowD)=[])
 simp only [cq,Bool.cond_false_right,and_self]
theorem QJ:CtrOK Tryz.prog K8 160 (ar K8 qJ yY):=by
 refine ba (C:=cf8 [k97] Tryz.f160) (bG (.cons NY .nil) _) mixed (fn:=Tryz.f160) Tryz.func160 (by kernel_rfl) (by kernel_rfl) (by kernel_rfl) (Λ:=fun _ _=>none) ?_ ?_ ?_
 ·exact fun _ _ _ _ _ _ _ _ h=>by cases h
 ·rintro ⟨r,⟨⟩⟩
  exact of_decide_eq_true (by kernel_rfl)
 ·rintro ⟨r,⟨⟩⟩ hw hn
  exact Qa r
theorem DY (r:Rules) (i n:Nat):dZ r i (n+1)=if nf r i != 0 then nf r i else dZ r (i+1) n:=rfl
theorem Ko {s:ByteArray} (h:wfD .str s):s.size≤aP:=by
 obtain ⟨S,w,cs,h⟩:=h
 cases h with|str h=>exact h
theorem Ou (r:Rules) (hx:r.Power.length≤aP) (i:Nat) (hi:Ez r i) :(stepObl (J94 r) (Ez r) (fun i=>r.Power.length - i) i (T94 r) (bs (cf8 [k97] Tryz.f161) (fun _=>none) (aH Tryz.f161 0) (J94 r i)) (L94 i)).1:=by
 refine cast (by kernel_rfl) (?_ :(decide ((↑i:Int) <(↑r.14.length:Int))=true→((0:Int)≤(↑i:Int)∧(↑i:Int) <(↑r.14.length:Int))∧((bif decide ((r.14.getD (↑i:Int).toNat (dflt (Ty.nm Nm.Phase))).1 <(1:Int)) then true else bif decide ((r.14.getD (↑i:Int).toNat (dflt (Ty.nm Nm.Phase))).1 >(r.14.getD (↑i:Int).toNat (dflt (Ty.nm Nm.Phase))).2) then true else bif decide ((r.14.getD (↑i:Int).toNat (dflt (Ty.nm Nm.Phase))).2>r.4) then true else !aX (r.14.getD (↑i:Int).toNat (dflt (Ty.nm Nm.Phase))).3 (0:Int) (11:Int))=true→(dZ r (0:Nat) r.14.length !=(0:Int))=true∧((2:Int)=dZ r (0:Nat) r.14.length∧True)∧True)∧((bif decide ((r.14.getD (↑i:Int).toNat (dflt (Ty.nm Nm.Phase))).1 <(1:Int)) then true else bif decide ((r.14.getD (↑i:Int).toNat (dflt (Ty.nm Nm.Phase))).1 >(r.14.getD (↑i:Int).toNat (dflt (Ty.nm Nm.Phase))).2) then true else bif decide ((r.14.getD (↑i:Int).toNat (dflt (Ty.nm Nm.Phase))).2>r.4) then true else !aX (r.14.getD (↑i:Int).toNat (dflt (Ty.nm Nm.Phase))).3 (0:Int) (11:Int))=false→((decide ((↑i:Int) >(0:Int))=true→((0:Int)≤IntKind.i64.wrap ((↑i:Int) - (1:Int))∧IntKind.i64.wrap ((↑i:Int) - (1:Int)) <(↑r.14.length:Int))∧True)∧(decide ((↑i:Int) >(0:Int))=false→True))∧(true=true→((bif decide ((↑i:Int) >(0:Int)) then decide ((r.14.getD (↑i:Int).toNat (dflt (Ty.nm Nm.Phase))).1≤(r.14.getD (IntKind.i64.wrap ((↑i:Int) - (1:Int))).toNat (dflt (Ty.nm Nm.Phase))).2) else false)=true→(dZ r (0:Nat) r.14.length !=(0:Int))=true∧((8:Int)=dZ r (0:Nat) r.14.length∧True)∧True)∧((bif decide ((↑i:Int) >(0:Int)) then decide ((r.14.getD (↑i:Int).toNat (dflt (Ty.nm Nm.Phase))).1≤(r.14.getD (IntKind.i64.wrap ((↑i:Int) - (1:Int))).toNat (dflt (Ty.nm Nm.Phase))).2) else false)=false→Ez r (i +(1:Nat))∧r.14.length - (i +(1:Nat))<r.14.length - i∧(True∧RowD.mk (Ty.nm Nm.Phase) r.14=RowD.mk (Ty.nm Nm.Phase) r.14∧(↑r.14.length:Int) =(↑r.14.length:Int)∧IntKind.i64.wrap ((↑i:Int) +(1:Int)) =(↑(i +(1:Nat)):Int)∧True)∧(r.1=r.1∧r.2=r.2∧r.3=r.3∧r.4=r.4∧r.5=r.5∧r.6=r.6∧r.7=r.7∧r.8=r.8∧r.9=r.9∧r.10=r.10∧r.11=r.11∧r.12=r.12∧r.13=r.13∧RowD.mk (Ty.nm Nm.Phase) r.14=RowD.mk (Ty.nm Nm.Phase) r.14∧True)∧True))))∧(decide ((↑i:Int) <(↑r.14.length:Int))=false→(dZ r (0:Nat) r.14.length !=(0:Int))=false∧True∧True))
 have e :(i:Int).toNat=i:=by simp
 rw [e]
 have hb:r.Power.length≤140737488355328:=hx
 have hp:r.Power.getD i (dflt (Ty.nm Nm.Phase))=cZ r i:=rfl
 rw [hp]
 have hpb :(bif decide ((cZ r i).From<1) then true else bif decide ((cZ r i).From >(cZ r i).To) then true else bif decide ((cZ r i).To>r.Overs) then true else !aX (cZ r i).Outside 0 11)=th r (cZ r i):=by
  simp only [th,Bool.cond_true_left]
 rw [hpb]
 obtain ⟨hi1,hi2⟩:=hi
 refine ⟨fun h1=>?_,fun h1=>?_⟩
 ·have h1:i<r.Power.length:=by simpa using h1
  have hn:r.Power.length - i =(r.Power.length - (i+1))+1:=by omega
  rw [hn,DY] at hi2
  have hw1:0<i→IntKind.i64.wrap ((i:Int) - 1) =((i - 1:Nat):Int):=fun h=>by rw [dH (by omega) (by omega)];omega
  refine ⟨⟨by omega,by omega⟩,fun h2=>?_,fun h2=>⟨⟨fun h3=>?_,fun _=>trivial⟩,fun _=>⟨fun h3=>?_,fun h3=>?_⟩⟩⟩
  ·have hE:nf r i=2:=by simp only [nf,h2];rfl
   rw [hE] at hi2
   have hi2:dZ r 0 r.Power.length=2:=hi2
   rw [hi2]
   exact ⟨rfl,⟨rfl,trivial⟩,trivial⟩
  ·have h3:0<i:=by simpa using h3
   rw [hw1 h3]
   exact ⟨⟨by omega,by omega⟩,trivial⟩
  ·have h4:0<i:=by
    by_cases h4:0<i
    ·exact h4
    ·have:i=0:=by omega
     subst this
     simp at h3
   rw [hw1 h4,Int.toNat_natCast] at h3
   have hq:r.Power.getD (i - 1) (dflt (Ty.nm Nm.Phase))=cZ r (i - 1):=rfl
   rw [hq] at h3
   have h5 :(decide ((i:Int)>0)&&decide ((cZ r i).From≤(cZ r (i - 1)).To))=true:=by rw [←h3];cases decide ((i:Int)>0) <;> rfl
   have hE:nf r i=8:=by simp only [nf,h2,h5];rfl
   rw [hE] at hi2
   have hi2:dZ r 0 r.Power.length=8:=hi2
   rw [hi2]
   exact ⟨rfl,⟨rfl,trivial⟩,trivial⟩
  ·have h5 :(decide ((i:Int)>0)&&decide ((cZ r i).From≤(cZ r (i - 1)).To))=false:=by
    by_cases h4:0<i
    ·rw [hw1 h4,Int.toNat_natCast] at h3
     have hq:r.Power.getD (i - 1) (dflt (Ty.nm Nm.Phase))=cZ r (i - 1):=rfl
     rw [hq] at h3
     rw [←h3];cases decide ((i:Int)>0) <;> rfl
    ·have:i=0:=by omega
     subst this;rfl
   have hE:nf r i=0:=by simp only [nf,h2,h5];rfl
   rw [hE] at hi2
   have hi2:dZ r 0 r.Power.length=dZ r (i+1) (r.Power.length - (i+1)):=hi2
   exact ⟨⟨by omega,hi2⟩,by omega,⟨trivial,rfl,rfl,by rw [dH (by omega) (by omega)];omega,trivial⟩,by simp⟩
 ·have h1:r.Power.length≤i:=by simpa using h1
  have h2:r.Power.length - i=0:=by omega
  rw [h2] at hi2
  have hi2:dZ r 0 r.Power.length=0:=hi2
  rw [hi2]
  exact ⟨rfl,trivial,trivial⟩
theorem NI (r:Rules) (hx:r.Power.length≤aP):LoopOK Tryz.prog Tryz.f161.ntmps (aH Tryz.f161 0) (cY ⟨[],[],8⟩ (J94 r 0) (T94 r)):=
 ky (bG (.cons NY .nil) _) mixed (J94 r) (fun _=>rfl) (Ez r) (fun i=>r.Power.length - i) (fun _ _=>none) (fun _ _ _ _ _ h=>by cases h) (T94 r) [] [] 0 (⟨Nat.zero_le _,rfl⟩) L94 (fun i hi=>Ou r hx i hi)
theorem Qb (r:Rules) (hx:r.Power.length≤aP) :(evFn (cf8 [k97] Tryz.f161) (Λ94 r) Tryz.f161 (bo qJ (r,()))).sat fun v' rows=>leV v' (yZ (r,())).v∧rows =(yZ (r,())).rows:=by
 refine cast (by kernel_rfl) (?_ :(decide ((↑r.14.length:Int) >(8:Int))=true→(9:Int)=gw r∧([]:List RowD)=[])∧(decide ((↑r.14.length:Int) >(8:Int))=false→((fW fun x=>none)∧(True∧RowD.mk (Ty.nm Nm.Phase) r.14=RowD.mk (Ty.nm Nm.Phase) r.14∧(↑r.14.length:Int) =(↑r.14.length:Int)∧(0:Int) =(↑(0:Nat):Int)∧True)∧(r.1=r.1∧r.2=r.2∧r.3=r.3∧r.4=r.4∧r.5=r.5∧r.6=r.6∧r.7=r.7∧r.8=r.8∧r.9=r.9∧r.10=r.10∧r.11=r.11∧r.12=r.12∧r.13=r.13∧RowD.mk (Ty.nm Nm.Phase) r.14=RowD.mk (Ty.nm Nm.Phase) r.14∧True)∧True)∧((dZ r (0:Nat) r.14.length !=(0:Int))=true→dZ r (0:Nat) r.14.length=gw r∧([]:List RowD)=[])∧((dZ r (0:Nat) r.14.length !=(0:Int))=false→(0:Int)=gw r∧([]:List RowD)=[])))
 refine ⟨fun h=>⟨?_,rfl⟩,fun h=>⟨⟨rfl,⟨trivial,rfl,rfl,rfl,trivial⟩,by simp⟩,fun h2=>⟨?_,rfl⟩,fun h2=>⟨?_,rfl⟩⟩⟩
 ·simp only [gw];rw [if_pos (of_decide_eq_true h)]
 ·simp only [gw];rw [if_neg (of_decide_eq_false h)]
 ·simp only [gw];rw [if_neg (of_decide_eq_false h)]
  have h2:dZ r 0 r.Power.length=0:=by simpa using h2
  exact h2.symm
theorem QK:CtrOK Tryz.prog K8 161 (ar K8 qJ yZ):=by
 refine ba (C:=cf8 [k97] Tryz.f161) (bG (.cons NY .nil) _) mixed (fn:=Tryz.f161) Tryz.func161 (by kernel_rfl) (by kernel_rfl) (by kernel_rfl) (Λ:=fun x=>Λ94 x.1) ?_ ?_ ?_
 ·rintro ⟨r,⟨⟩⟩ hw hn
  exact LoopsOK.at (by kernel_rfl) (.cons (by kernel_rfl) (NI r (pa (bf hw))) .nil)
 ·rintro ⟨r,⟨⟩⟩
  exact of_decide_eq_true (by kernel_rfl)
 ·rintro ⟨r,⟨⟩⟩ hw hn
  exact Qb r (pa (bf hw))
end Go.Proofs.YtffdpnmioidloaaGreatDoor
namespace Go.Proofs.YtffdpnmioidloaaGreatDoor
open Go Go.Mir
attribute [local irreducible] Go.Mir.RT.sat Go.Mir.evFn Go.Mir.stepObl
theorem FG (s:ByteArray) :(aR s).length=s.size:=by
 have:s.data.size=s.size:=ByteArray.size_data
 simp [aR,this]
theorem Ho (s:ByteArray) (i:Nat) (h:i<s.size) :(aR s).getD i (0:Int)=rC s i:=by
 have h1:i<s.data.size:=by rw [ByteArray.size_data];exact h
 simp [aR,rC,Array.getElem?_eq_getElem h1]
theorem Ot (s:ByteArray) (hx:s.size≤aP) (i:Nat) (hi:EA s i) :(stepObl (J92 s) (EA s) (fun i=>s.size - i) i (T92 s) (bs (cf8 [] Tryz.f159) (fun _=>none) (aH Tryz.f159 0) (J92 s i)) (L95 i)).1:=by
 refine cast (by kernel_rfl) (?_ :(decide ((↑i:Int) <(↑(aR s).length:Int))=true→((0:Int)≤(↑i:Int)∧(↑i:Int) <(↑(aR s).length:Int))∧((bif !bif decide ((aR s).getD (↑i:Int).toNat (dflt (Ty.int IntKind.u8))≥(65:Int)) then decide ((aR s).getD (↑i:Int).toNat (dflt (Ty.int IntKind.u8))≤(90:Int)) else false then bif (↑i:Int) ==(0:Int) then true else bif (aR s).getD (↑i:Int).toNat (dflt (Ty.int IntKind.u8)) !=(95:Int) then bif (aR s).getD (↑i:Int).toNat (dflt (Ty.int IntKind.u8)) !=(45:Int) then bif decide ((aR s).getD (↑i:Int).toNat (dflt (Ty.int IntKind.u8)) <(48:Int)) then true else decide ((aR s).getD (↑i:Int).toNat (dflt (Ty.int IntKind.u8)) >(57:Int)) else false else false else false)=true→kr s s.size=false∧(false=false∧True)∧True)∧((bif !bif decide ((aR s).getD (↑i:Int).toNat (dflt (Ty.int IntKind.u8))≥(65:Int)) then decide ((aR s).getD (↑i:Int).toNat (dflt (Ty.int IntKind.u8))≤(90:Int)) else false then bif (↑i:Int) ==(0:Int) then true else bif (aR s).getD (↑i:Int).toNat (dflt (Ty.int IntKind.u8)) !=(95:Int) then bif (aR s).getD (↑i:Int).toNat (dflt (Ty.int IntKind.u8)) !=(45:Int) then bif decide ((aR s).getD (↑i:Int).toNat (dflt (Ty.int IntKind.u8)) <(48:Int)) then true else decide ((aR s).getD (↑i:Int).toNat (dflt (Ty.int IntKind.u8)) >(57:Int)) else false else false else false)=false→EA s (i +(1:Nat))∧s.size - (i +(1:Nat))<s.size - i∧(s=s∧True∧(↑(aR s).length:Int) =(↑(aR s).length:Int)∧IntKind.i64.wrap ((↑i:Int) +(1:Int)) =(↑(i +(1:Nat)):Int)∧True)∧RowD.mk (Ty.int IntKind.u8) (aR s)=RowD.mk (Ty.int IntKind.u8) (aR s)∧True))∧(decide ((↑i:Int) <(↑(aR s).length:Int))=false→kr s s.size=true∧(s=s∧True)∧True))
 have e :(i:Int).toNat=i:=by simp
 rw [e]
 have hb:s.size≤140737488355328:=hx
 have hlen:=FG s
 obtain ⟨hi1,hi2⟩:=hi
 have hbad :∀ c:Int,(bif !(bif decide (c≥65) then decide (c≤90) else false) then bif (i:Int)==0 then true else bif c != 95 then bif c != 45 then bif decide (c<48) then true else decide (c>57) else false else false else false)=Ef i c:=fun c=>by
  simp only [Ef,ET,Bool.cond_true_left,Bool.cond_false_right]
 rw [hbad]
 refine ⟨fun h1=>?_,fun h1=>⟨?_,⟨rfl,trivial⟩,trivial⟩⟩
 ·have h1:i <(aR s).length:=by simpa using h1
  have hat :(aR s).getD i (dflt (Ty.int IntKind.u8))=rC s i:=Ho s i (by omega)
  rw [hat]
  refine ⟨⟨by omega,by omega⟩,fun h2=>⟨?_,⟨rfl,trivial⟩,trivial⟩,fun h2=>⟨⟨by omega,?_⟩,by omega,⟨rfl,trivial,rfl,by rw [dH (by omega) (by omega)];omega,trivial⟩,rfl,trivial⟩⟩
  ·unfold kr
   rw [List.all_eq_false]
   exact ⟨i,List.mem_range.2 (by omega),by rw [h2];decide⟩
  ·unfold kr at hi2 ⊢
   rw [List.range_succ,List.all_append,hi2]
   simp [h2]
 ·have h1 :(aR s).length≤i:=by simpa using h1
  have:i=s.size:=by omega
  rw [←this];exact hi2
theorem NH (s:ByteArray) (hx:s.size≤aP):LoopOK Tryz.prog Tryz.f159.ntmps (aH Tryz.f159 0) (cY ⟨[],[],40⟩ (J92 s 0) (T92 s)):=
 ky (bG (CtrsOK.nil) _) mixed (J92 s) (fun _=>rfl) (EA s) (fun i=>s.size - i) (fun _ _=>none) (fun _ _ _ _ _ h=>by cases h) (T92 s) [] [] 0 (⟨Nat.zero_le _,rfl⟩) L95 (fun i hi=>Ot s hx i hi)
theorem P9 (s:ByteArray) (hx:s.size≤aP) :(evFn (cf8 [] Tryz.f159) (Λ92 s) Tryz.f159 (bo LK (s,()))).sat fun v' rows=>leV v' (y3 (s,())).v∧rows =(y3 (s,())).rows:=by
 refine cast (by kernel_rfl) (?_ :((fW fun x=>none)∧(s=s∧True∧(↑(aR s).length:Int) =(↑(aR s).length:Int)∧(0:Int) =(↑(0:Nat):Int)∧True)∧RowD.mk (Ty.int IntKind.u8) (aR s)=RowD.mk (Ty.int IntKind.u8) (aR s)∧True)∧(kr s s.size=true→(bif decide ((↑s.size:Int)≥(1:Int)) then decide ((↑s.size:Int)≤(16:Int)) else false)=lR s∧([]:List RowD)=[])∧(kr s s.size=false→false=lR s∧([]:List RowD)=[]))
 have hn:lR s =(kr s s.size&&(decide ((s.size:Int)≥1)&&decide ((s.size:Int)≤16))):=rfl
 refine ⟨⟨rfl,⟨rfl,trivial,rfl,rfl,trivial⟩,rfl,trivial⟩,fun h=>⟨?_,rfl⟩,fun h=>⟨?_,rfl⟩⟩
 ·rw [hn,h,Bool.true_and,Bool.cond_false_right]
 ·rw [hn,h,Bool.false_and]
theorem QI:CtrOK Tryz.prog K8 159 (ar K8 LK y3):=by
 refine ba (C:=cf8 [] Tryz.f159) (bG (CtrsOK.nil) _) mixed (fn:=Tryz.f159) Tryz.func159 (by kernel_rfl) (by kernel_rfl) (by kernel_rfl) (Λ:=fun x=>Λ92 x.1) ?_ ?_ ?_
 ·rintro ⟨s,⟨⟩⟩ hw hn
  exact LoopsOK.at (by kernel_rfl) (.cons (by kernel_rfl) (NH s (Ko (bf hw))) .nil)
 ·rintro ⟨s,⟨⟩⟩
  exact of_decide_eq_true (by kernel_rfl)
 ·rintro ⟨s,⟨⟩⟩ hw hn
  exact P9 s (Ko (bf hw))
end Go.Proofs.YtffdpnmioidloaaGreatDoor
namespace Go.Proofs.YtffdpnmioidloaaGreatDoor
open Go Go.Mir
attribute [local irreducible] Go.Mir.RT.sat Go.Mir.evFn Go.Mir.stepObl
theorem Hh (r:Rules) :(bif bif r.FollowOn != 0 then r.Innings==1 else false then bif r.FollowOn != 0 then r.Innings==1 else false else bif r.Quota != 0 then r.Overs==0 else bif decide ((r.Power.length:Int)>0) then r.Overs==0 else false)=wG r:=by
 simp only [wG]
 generalize (r.FollowOn != 0)=a
 generalize (r.Innings==1)=b
 generalize (r.Quota != 0)=c
 generalize decide ((r.Power.length:Int)>0)=d
 generalize (r.Overs==0)=e
 cases a <;> cases b <;> cases c <;> cases d <;> cases e <;> rfl
theorem B5 (r:Rules) :(bif r.Quota != 0 then decide (IntKind.i64.wrap (r.Quota*r.Side)<r.Overs) else false)=wO r:=by
 simp only [wO,Bool.cond_false_right]
theorem P5 (r:Rules) :(evFn (cf8 [k92,k93,k94] Tryz.f90) (fun _=>none) Tryz.f90 (bo qJ (r,()))).sat fun v' rows=>leV v' (yU (r,())).v∧rows =(yU (r,())).rows:=by
 refine cast (by kernel_rfl) (?_ :((!lR r.1)=true→(5:Int)=aC r∧([]:List RowD)=[])∧((!lR r.1)=false→((!cq r)=true→(2:Int)=aC r∧([]:List RowD)=[])∧((!cq r)=false→((bif bif r.11 !=(0:Int) then r.3 ==(1:Int) else false then bif r.11 !=(0:Int) then r.3 ==(1:Int) else false else bif r.6 !=(0:Int) then r.4 ==(0:Int) else bif decide ((↑r.14.length:Int) >(0:Int)) then r.4 ==(0:Int) else false)=true→(1:Int)=aC r∧([]:List RowD)=[])∧((bif bif r.11 !=(0:Int) then r.3 ==(1:Int) else false then bif r.11 !=(0:Int) then r.3 ==(1:Int) else false else bif r.6 !=(0:Int) then r.4 ==(0:Int) else bif decide ((↑r.14.length:Int) >(0:Int)) then r.4 ==(0:Int) else false)=false→((bif r.6 !=(0:Int) then decide (IntKind.i64.wrap (r.6*r.2)<r.4) else false)=true→(13:Int)=aC r∧([]:List RowD)=[])∧((bif r.6 !=(0:Int) then decide (IntKind.i64.wrap (r.6*r.2)<r.4) else false)=false→gw r=aC r∧([]:List RowD)=[])))))
 rw [Hh,B5]
 simp only [aC]
 repeat' first|refine And.intro ?_ ?_|intro _
 all_goals first|rfl |(simp_all;done)|grind
theorem sS:CtrOK Tryz.prog K8 90 (ar K8 qJ yU):=by
 refine ba (C:=cf8 [k92,k93,k94] Tryz.f90) (bG (.cons QI (.cons QJ (.cons QK .nil))) _) mixed (fn:=Tryz.f90) Tryz.func90 (by kernel_rfl) (by kernel_rfl) (by kernel_rfl) (Λ:=fun _ _=>none) ?_ ?_ ?_
 ·exact fun _ _ _ _ _ _ _ _ h=>by cases h
 ·rintro ⟨r,⟨⟩⟩
  exact of_decide_eq_true (by kernel_rfl)
 ·rintro ⟨r,⟨⟩⟩ hw hn
  exact P5 r
theorem xq {x:Innings} {p:Int} (hp:lK p) (h:bF x p=true):IntKind.i64.wrap (p - 1)=p - 1∧0≤p - 1∧p - 1 <(x.Bowled.length:Int):=by
 simp only [bF,Bool.and_eq_true,decide_eq_true_eq] at h
 have:=hp.2
 exact ⟨dH (by omega) (by omega),by omega,by omega⟩
theorem P1 (r:Rules) (x:Innings) (p:Int) (hp:lK p) :(evFn (cf8 [k84,k85] Tryz.f394) (fun _=>none) Tryz.f394 (bo kX (r,x,p,()))).sat fun v' rows=>leV v' (yR (r,x,p,())).v∧rows =(yR (r,x,p,())).rows:=by
 refine cast (by kernel_rfl) (?_ :((bif !bF x p then true else aC r !=(0:Int))=true→(0:Int)=jW r x p∧([]:List RowD)=[])∧((bif !bF x p then true else aC r !=(0:Int))=false→((r.6 ==(0:Int))=true→(-1:Int)=jW r x p∧([]:List RowD)=[])∧((r.6 ==(0:Int))=false→((0:Int)≤IntKind.i64.wrap (p - (1:Int))∧IntKind.i64.wrap (p - (1:Int)) <(↑x.16.length:Int))∧(if (0:Int)>IntKind.i64.wrap (IntKind.i64.wrap (r.6*r.5) - if (0:Int)>x.16.getD (IntKind.i64.wrap (p - (1:Int))).toNat (dflt (Ty.int IntKind.i64)) then (0:Int) else x.16.getD (IntKind.i64.wrap (p - (1:Int))).toNat (dflt (Ty.int IntKind.i64))) then (0:Int) else IntKind.i64.wrap (IntKind.i64.wrap (r.6*r.5) - if (0:Int)>x.16.getD (IntKind.i64.wrap (p - (1:Int))).toNat (dflt (Ty.int IntKind.i64)) then (0:Int) else x.16.getD (IntKind.i64.wrap (p - (1:Int))).toNat (dflt (Ty.int IntKind.i64))))=jW r x p∧([]:List RowD)=[])))
 have h0 :(bif !bF x p then true else aC r != 0) =(!bF x p||aC r != 0):=by cases bF x p <;> rfl
 rw [h0]
 refine ⟨fun h=>⟨?_,rfl⟩,fun h=>⟨fun h2=>⟨?_,rfl⟩,fun h2=>⟨?_,?_,rfl⟩⟩⟩
 ·simp only [jW,h,if_true]
 ·simp only [jW,h,h2,if_true];rfl
 ·have hk:bF x p=true:=by
   cases hk:bF x p with
   | true=>rfl
   | false=>rw [hk] at h;cases h
  obtain ⟨e,h3,h4⟩:=xq hp hk
  rw [e];exact ⟨h3,h4⟩
 ·have hk:bF x p=true:=by
   cases hk:bF x p with
   | true=>rfl
   | false=>rw [hk] at h;cases h
  obtain ⟨e,h3,h4⟩:=xq hp hk
  rw [e]
  simp only [jW,h,h2]
  rfl
theorem QF:CtrOK Tryz.prog K8 394 (ar K8 kX yR):=by
 refine ba (C:=cf8 [k84,k85] Tryz.f394) (bG (.cons NX (.cons sS .nil)) _) mixed (fn:=Tryz.f394) Tryz.func394 (by kernel_rfl) (by kernel_rfl) (by kernel_rfl) (Λ:=fun _ _=>none) ?_ ?_ ?_
 ·exact fun _ _ _ _ _ _ _ _ h=>by cases h
 ·rintro ⟨r,x,p,⟨⟩⟩
  exact of_decide_eq_true (by kernel_rfl)
 ·rintro ⟨r,x,p,⟨⟩⟩ hw hn
  exact P1 r x p (gS (bf (aG (aG hw))))
end Go.Proofs.YtffdpnmioidloaaGreatDoor
namespace Go.Proofs.YtffdpnmioidloaaGreatDoor
open Go Go.Mir
attribute [local irreducible] Go.Mir.RT.sat Go.Mir.evFn Go.Mir.stepObl
theorem P2 (r:Rules) (x:Innings) (p:Int) (hp:lK p) :(evFn (cf8 [k47,k81,k84,k85] Tryz.f374) (fun _=>none) Tryz.f374 (bo kX (r,x,p,()))).sat fun v' rows=>leV v' (yS (r,x,p,())).v∧rows =(yS (r,x,p,())).rows:=by
 refine cast (by kernel_rfl) (?_ :((bif !bF x p then true else aC r !=(0:Int))=true→(3:Int)=c9 r x p∧([]:List RowD)=[])∧((bif !bF x p then true else aC r !=(0:Int))=false→((decide (p≤(↑x.21.length:Int))=true→((0:Int)≤IntKind.i64.wrap (p - (1:Int))∧IntKind.i64.wrap (p - (1:Int)) <(↑x.21.length:Int))∧True)∧(decide (p≤(↑x.21.length:Int))=false→True))∧(true=true→((bif p==x.19 then true else bif p==x.12 then true else bif decide (p≤(↑x.21.length:Int)) then x.21.getD (IntKind.i64.wrap (p - (1:Int))).toNat (dflt Ty.bool) else false)=true→(7:Int)=c9 r x p∧([]:List RowD)=[])∧((bif p==x.19 then true else bif p==x.12 then true else bif decide (p≤(↑x.21.length:Int)) then x.21.getD (IntKind.i64.wrap (p - (1:Int))).toNat (dflt Ty.bool) else false)=false→(fI x.14 p=true→(8:Int)=c9 r x p∧([]:List RowD)=[])∧(fI x.14 p=false→((bif jW r x p !=(-1:Int) then decide (x.8<IntKind.i64.wrap (r.5 - jW r x p)) else false)=true→(9:Int)=c9 r x p∧([]:List RowD)=[])∧((bif jW r x p !=(-1:Int) then decide (x.8<IntKind.i64.wrap (r.5 - jW r x p)) else false)=false→(0:Int)=c9 r x p∧([]:List RowD)=[]))))))
 have h0 :(bif !bF x p then true else aC r != 0) =(!bF x p||aC r != 0):=by cases bF x p <;> rfl
 rw [h0]
 refine ⟨fun h=>⟨?_,rfl⟩,fun h=>?_⟩
 ·simp only [c9,h,if_true]
 ·have hk:bF x p=true:=by
   cases hk:bF x p with
   | true=>rfl
   | false=>rw [hk] at h;cases h
  have hp1:p≥1:=by
   simp only [bF,Bool.and_eq_true,decide_eq_true_eq] at hk
   exact hk.1
  have hw:IntKind.i64.wrap (p - 1)=p - 1:=by have:=hp.2;exact dH (by omega) (by omega)
  rw [hw]
  have hrep :(bif decide (p≤(x.Subs.length:Int)) then x.Subs.getD (p - 1).toNat (dflt Ty.bool) else false)=aU x p:=by
   simp only [aU,bl,decide_eq_true hp1,Bool.true_and]
   cases decide (p≤(x.Subs.length:Int)) <;> rfl
  rw [hrep]
  have hq :(bif p==x.Keeper then true else bif p==x.Bowler then true else aU x p) =(p==x.Keeper ||(p==x.Bowler||aU x p)):=by simp only [Bool.cond_true_left]
  rw [hq,Bool.cond_false_right]
  refine ⟨⟨fun h1=>⟨?_,trivial⟩,fun _=>trivial⟩,fun _=>⟨fun h1=>⟨?_,rfl⟩,fun h1=>⟨fun h2=>⟨?_,rfl⟩,fun h2=>⟨fun h3=>⟨?_,rfl⟩,fun h3=>⟨?_,rfl⟩⟩⟩⟩⟩
  ·have h1:p≤(x.Subs.length:Int):=of_decide_eq_true h1
   exact ⟨by omega,by omega⟩
  ·simp only [c9,h,h1];rfl
  ·simp only [c9,h,h1,h2];rfl
  ·simp only [c9,h,h1,h2,h3];rfl
  ·simp only [c9,h,h1,h2,h3];rfl
theorem QG:CtrOK Tryz.prog K8 374 (ar K8 kX yS):=by
 refine ba (C:=cf8 [k47,k81,k84,k85] Tryz.f374) (bG (.cons K5 (.cons QF (.cons NX (.cons sS .nil)))) _) mixed (fn:=Tryz.f374) Tryz.func374 (by kernel_rfl) (by kernel_rfl) (by kernel_rfl) (Λ:=fun _ _=>none) ?_ ?_ ?_
 ·exact fun _ _ _ _ _ _ _ _ h=>by cases h
 ·rintro ⟨r,x,p,⟨⟩⟩
  exact of_decide_eq_true (by kernel_rfl)
 ·rintro ⟨r,x,p,⟨⟩⟩ hw hn
  exact P2 r x p (gS (bf (aG (aG hw))))
theorem PM (r:Rules) (x:Innings) (p:Int) (hs:ah x) :(evFn (cf8 [k82,k83] Tryz.f342) (fun _=>none) Tryz.f342 (bo kX (r,x,p,()))).sat fun v' rows=>leV v' (yD (r,x,p,())).v∧rows =(yD (r,x,p,())).rows:=by
 refine cast (by kernel_rfl) (?_:ah x∧(((bif c9 r x p ==(0:Int) then x.1 else x.1) =(bN r x p).1∧(bif c9 r x p ==(0:Int) then x.2 else x.2) =(bN r x p).2∧(bif c9 r x p ==(0:Int) then x.3 else x.3) =(bN r x p).3∧(bif c9 r x p ==(0:Int) then x.4 else x.4) =(bN r x p).4∧(bif c9 r x p ==(0:Int) then x.5 else x.5) =(bN r x p).5∧(bif c9 r x p ==(0:Int) then x.6.1 else x.6.1) =(bN r x p).6.1∧(bif c9 r x p ==(0:Int) then x.6.2 else x.6.2) =(bN r x p).6.2∧(bif c9 r x p ==(0:Int) then x.6.3 else x.6.3) =(bN r x p).6.3∧(bif c9 r x p ==(0:Int) then x.6.4 else x.6.4) =(bN r x p).6.4∧(bif c9 r x p ==(0:Int) then x.6.5 else x.6.5) =(bN r x p).6.5∧(bif c9 r x p ==(0:Int) then x.7 else x.7) =(bN r x p).7∧(bif c9 r x p ==(0:Int) then x.8 else x.8) =(bN r x p).8∧(bif c9 r x p ==(0:Int) then x.9 else x.9) =(bN r x p).9∧(bif c9 r x p ==(0:Int) then x.10 else x.10) =(bN r x p).10∧(nat_lit 0=nat_lit 0∧nat_lit 0=nat_lit 0)∧(bif c9 r x p ==(0:Int) then p else x.12) =(bN r x p).12∧(nat_lit 1=nat_lit 1∧nat_lit 1=nat_lit 1)∧(nat_lit 2=nat_lit 2∧nat_lit 2=nat_lit 2)∧(bif c9 r x p ==(0:Int) then x.15 else x.15) =(bN r x p).15∧(nat_lit 3=nat_lit 3∧nat_lit 3=nat_lit 3)∧(bif c9 r x p ==(0:Int) then x.17 else x.17) =(bN r x p).17∧(bif c9 r x p ==(0:Int) then x.18 else x.18) =(bN r x p).18∧(bif c9 r x p ==(0:Int) then x.19 else x.19) =(bN r x p).19∧(bif c9 r x p ==(0:Int) then x.20 else x.20) =(bN r x p).20∧(nat_lit 4=nat_lit 4∧nat_lit 4=nat_lit 4)∧(bif c9 r x p ==(0:Int) then x.22.1 else x.22.1) =(bN r x p).22.1∧(bif c9 r x p ==(0:Int) then x.22.2.1 else x.22.2.1) =(bN r x p).22.2.1∧(bif c9 r x p ==(0:Int) then x.23 else x.23) =(bN r x p).23∧True)∧c9 r x p=c9 r x p∧True)∧ [RowD.mk (Ty.int IntKind.u8) x.11,RowD.mk (Ty.int IntKind.i64) x.13,RowD.mk (Ty.int IntKind.i64) x.14,RowD.mk (Ty.int IntKind.i64) x.16,RowD.mk Ty.bool x.21]=[RowD.mk (Ty.int IntKind.u8) (bN r x p).11,RowD.mk (Ty.int IntKind.i64) (bN r x p).13,RowD.mk (Ty.int IntKind.i64) (bN r x p).14,RowD.mk (Ty.int IntKind.i64) (bN r x p).16,RowD.mk Ty.bool (bN r x p).21])
 refine ⟨hs,?_⟩
 cases hm :(c9 r x p==0) with
 | false=>
  have e:bN r x p=x:=by simp only [bN,hm];rfl
  rw [e];simp
 | true=>
  have e:bN r x p={ x with Bowler:=p }:=by simp only [bN,hm];rfl
  rw [e];simp
theorem Qv:CtrOK Tryz.prog K8 342 (ar K8 kX yD):=by
 refine ba (C:=cf8 [k82,k83] Tryz.f342) (bG (.cons QG (.cons NW .nil)) _) mixed (fn:=Tryz.f342) Tryz.func342 (by kernel_rfl) (by kernel_rfl) (by kernel_rfl) (Λ:=fun _ _=>none) ?_ ?_ ?_
 ·exact fun _ _ _ _ _ _ _ _ h=>by cases h
 ·rintro ⟨r,x,p,⟨⟩⟩
  exact of_decide_eq_true (by kernel_rfl)
 ·rintro ⟨r,x,p,⟨⟩⟩ hw hn
  exact PM r x p (hn _ (List.mem_singleton.2 rfl))
theorem PO (r:Rules) (x:Innings) (hs:ah x) :(evFn (cf8 [k83,k85] Tryz.f350) (fun _=>none) Tryz.f350 (bo A5 (r,x,()))).sat fun v' rows=>leV v' (yF (r,x,())).v∧rows =(yF (r,x,())).rows:=by
 refine cast (by kernel_rfl) (?_:ah x∧((bif aC r !=(0:Int) then true else bif r.10 ==(0:Int) then true else decide (x.18<IntKind.i64.wrap (r.10*r.5)))=true→((x.1 =(bu r x).1∧x.2 =(bu r x).2∧x.3 =(bu r x).3∧x.4 =(bu r x).4∧x.5 =(bu r x).5∧x.6.1 =(bu r x).6.1∧x.6.2 =(bu r x).6.2∧x.6.3 =(bu r x).6.3∧x.6.4 =(bu r x).6.4∧x.6.5 =(bu r x).6.5∧x.7 =(bu r x).7∧x.8 =(bu r x).8∧x.9 =(bu r x).9∧x.10 =(bu r x).10∧(nat_lit 0=nat_lit 0∧nat_lit 0=nat_lit 0)∧x.12 =(bu r x).12∧(nat_lit 1=nat_lit 1∧nat_lit 1=nat_lit 1)∧(nat_lit 2=nat_lit 2∧nat_lit 2=nat_lit 2)∧x.15 =(bu r x).15∧(nat_lit 3=nat_lit 3∧nat_lit 3=nat_lit 3)∧x.17 =(bu r x).17∧x.18 =(bu r x).18∧x.19 =(bu r x).19∧x.20 =(bu r x).20∧(nat_lit 4=nat_lit 4∧nat_lit 4=nat_lit 4)∧x.22.1 =(bu r x).22.1∧x.22.2.1 =(bu r x).22.2.1∧x.23 =(bu r x).23∧True)∧(22:Int)=xI r x∧True)∧ [RowD.mk (Ty.int IntKind.u8) x.11,RowD.mk (Ty.int IntKind.i64) x.13,RowD.mk (Ty.int IntKind.i64) x.14,RowD.mk (Ty.int IntKind.i64) x.16,RowD.mk Ty.bool x.21]=[RowD.mk (Ty.int IntKind.u8) (bu r x).11,RowD.mk (Ty.int IntKind.i64) (bu r x).13,RowD.mk (Ty.int IntKind.i64) (bu r x).14,RowD.mk (Ty.int IntKind.i64) (bu r x).16,RowD.mk Ty.bool (bu r x).21])∧((bif aC r !=(0:Int) then true else bif r.10 ==(0:Int) then true else decide (x.18<IntKind.i64.wrap (r.10*r.5)))=false→((x.1 =(bu r x).1∧x.2 =(bu r x).2∧x.3 =(bu r x).3∧x.4 =(bu r x).4∧x.5 =(bu r x).5∧x.6.1 =(bu r x).6.1∧x.6.2 =(bu r x).6.2∧x.6.3 =(bu r x).6.3∧x.6.4 =(bu r x).6.4∧x.6.5 =(bu r x).6.5∧x.7 =(bu r x).7∧x.8 =(bu r x).8∧x.9 =(bu r x).9∧x.10 =(bu r x).10∧(nat_lit 0=nat_lit 0∧nat_lit 0=nat_lit 0)∧x.12 =(bu r x).12∧(nat_lit 1=nat_lit 1∧nat_lit 1=nat_lit 1)∧(nat_lit 2=nat_lit 2∧nat_lit 2=nat_lit 2)∧x.15 =(bu r x).15∧(nat_lit 3=nat_lit 3∧nat_lit 3=nat_lit 3)∧x.17 =(bu r x).17∧(0:Int) =(bu r x).18∧x.19 =(bu r x).19∧x.20 =(bu r x).20∧(nat_lit 4=nat_lit 4∧nat_lit 4=nat_lit 4)∧x.22.1 =(bu r x).22.1∧x.22.2.1 =(bu r x).22.2.1∧x.23 =(bu r x).23∧True)∧(0:Int)=xI r x∧True)∧ [RowD.mk (Ty.int IntKind.u8) x.11,RowD.mk (Ty.int IntKind.i64) x.13,RowD.mk (Ty.int IntKind.i64) x.14,RowD.mk (Ty.int IntKind.i64) x.16,RowD.mk Ty.bool x.21]=[RowD.mk (Ty.int IntKind.u8) (bu r x).11,RowD.mk (Ty.int IntKind.i64) (bu r x).13,RowD.mk (Ty.int IntKind.i64) (bu r x).14,RowD.mk (Ty.int IntKind.i64) (bu r x).16,RowD.mk Ty.bool (bu r x).21]))
 have hc :(bif aC r != 0 then true else bif r.NewBall==0 then true else decide (x.BallAge<IntKind.i64.wrap (r.NewBall*r.Balls)))=EY r x:=by simp only [EY,Bool.cond_true_left]
 rw [hc]
 refine ⟨hs,fun h=>?_,fun h=>?_⟩
 ·have e:bu r x=x:=by simp only [bu,h];rfl
  have l:xI r x=22:=by simp only [xI,h];rfl
  rw [e,l];simp
 ·have e:bu r x={ x with BallAge:=0 }:=by simp only [bu,h];rfl
  have l:xI r x=0:=by simp only [xI,h];rfl
  rw [e,l];simp
theorem Qx:CtrOK Tryz.prog K8 350 (ar K8 A5 yF):=by
 refine ba (C:=cf8 [k83,k85] Tryz.f350) (bG (.cons NW (.cons sS .nil)) _) mixed (fn:=Tryz.f350) Tryz.func350 (by kernel_rfl) (by kernel_rfl) (by kernel_rfl) (Λ:=fun _ _=>none) ?_ ?_ ?_
 ·exact fun _ _ _ _ _ _ _ _ h=>by cases h
 ·rintro ⟨r,x,⟨⟩⟩
  exact of_decide_eq_true (by kernel_rfl)
 ·rintro ⟨r,x,⟨⟩⟩ hw hn
  exact PO r x (hn _ (List.mem_singleton.2 rfl))
theorem G9 {x:Innings} (h:wfD (.nm .Innings) x):lK x.Bowler:=
 gS (bf (aG (aG (aG (aG (aG (aG (aG (aG (aG (aG (aG (BR h)))))))))))))
theorem zI (x:Innings) (c:Bool) :(cu x c).InOver =(bif c then IntKind.i64.wrap (x.InOver+1) else x.InOver):=by cases c <;> rfl
theorem Eg {r:Rules} {x:Innings} (c:Bool) (h:gK r x=true):an r x c=x∧iu r x c=false:=by
 unfold an iu
 rw [if_pos h,if_pos h]
 exact ⟨rfl,rfl⟩
theorem qR {r:Rules} {x:Innings} {c:Bool} (h:gK r x=false) (h2:decide ((bif c then IntKind.i64.wrap (x.InOver+1) else x.InOver)<r.Balls)=true):an r x c=cu x c∧iu r x c=false:=by
 have h3 :(cu x c).InOver<r.Balls:=by rw [zI];exact of_decide_eq_true h2
 unfold an iu
 simp only [h,h3,if_true,Bool.false_eq_true,if_false,and_self]
theorem mn {r:Rules} {x:Innings} {c:Bool} (h:gK r x=false) (h2:decide ((bif c then IntKind.i64.wrap (x.InOver+1) else x.InOver)<r.Balls)=false):an r x c=AO (cu x c)∧iu r x c=true:=by
 have h3 :¬(cu x c).InOver<r.Balls:=by rw [zI];exact of_decide_eq_false h2
 unfold an iu
 simp only [h,h3,Bool.false_eq_true,if_false,and_self]
theorem PN (r:Rules) (x:Innings) (c:Bool) (hs:ah x) (hb:lK x.Bowler) :(evFn (cf8 [k47,k83,k84,k85] Tryz.f377) (fun _=>none) Tryz.f377 (bo Fe (r,x,c,()))).sat fun v' rows=>leV v' (yE (r,x,c,())).v∧rows =(yE (r,x,c,())).rows:=by
 refine cast (by kernel_rfl) (?_:ah x∧((bif !bF x x.12 then true else aC r !=(0:Int))=true→((x.1 =(an r x c).1∧x.2 =(an r x c).2∧x.3 =(an r x c).3∧x.4 =(an r x c).4∧x.5 =(an r x c).5∧x.6.1 =(an r x c).6.1∧x.6.2 =(an r x c).6.2∧x.6.3 =(an r x c).6.3∧x.6.4 =(an r x c).6.4∧x.6.5 =(an r x c).6.5∧x.7 =(an r x c).7∧x.8 =(an r x c).8∧x.9 =(an r x c).9∧x.10 =(an r x c).10∧(nat_lit 0=nat_lit 0∧nat_lit 0=nat_lit 0)∧x.12 =(an r x c).12∧(nat_lit 1=nat_lit 1∧nat_lit 1=nat_lit 1)∧(nat_lit 2=nat_lit 2∧nat_lit 2=nat_lit 2)∧x.15 =(an r x c).15∧(nat_lit 3=nat_lit 3∧nat_lit 3=nat_lit 3)∧x.17 =(an r x c).17∧x.18 =(an r x c).18∧x.19 =(an r x c).19∧x.20 =(an r x c).20∧(nat_lit 4=nat_lit 4∧nat_lit 4=nat_lit 4)∧x.22.1 =(an r x c).22.1∧x.22.2.1 =(an r x c).22.2.1∧x.23 =(an r x c).23∧True)∧false=iu r x c∧True)∧ [RowD.mk (Ty.int IntKind.u8) x.11,RowD.mk (Ty.int IntKind.i64) x.13,RowD.mk (Ty.int IntKind.i64) x.14,RowD.mk (Ty.int IntKind.i64) x.16,RowD.mk Ty.bool x.21]=[RowD.mk (Ty.int IntKind.u8) (an r x c).11,RowD.mk (Ty.int IntKind.i64) (an r x c).13,RowD.mk (Ty.int IntKind.i64) (an r x c).14,RowD.mk (Ty.int IntKind.i64) (an r x c).16,RowD.mk Ty.bool (an r x c).21])∧((bif !bF x x.12 then true else aC r !=(0:Int))=false→((!fI x.13 x.12)=true→(x.13.length+[x.12].length) *(8:Nat)≤(70368744177664:Nat)∧((c=true→((0:Int)≤IntKind.i64.wrap (x.12 - (1:Int))∧IntKind.i64.wrap (x.12 - (1:Int)) <(↑x.16.length:Int))∧((0:Int)≤IntKind.i64.wrap (x.12 - (1:Int))∧IntKind.i64.wrap (x.12 - (1:Int)) <(↑x.16.length:Int))∧True)∧(c=false→True))∧(true=true→(decide ((bif c then IntKind.i64.wrap (x.8 +(1:Int)) else x.8)<r.5)=true→(((bif c then x.1 else x.1) =(an r x c).1∧(bif c then x.2 else x.2) =(an r x c).2∧(bif c then x.3 else x.3) =(an r x c).3∧(bif c then x.4 else x.4) =(an r x c).4∧(bif c then x.5 else x.5) =(an r x c).5∧(bif c then x.6.1 else x.6.1) =(an r x c).6.1∧(bif c then x.6.2 else x.6.2) =(an r x c).6.2∧(bif c then x.6.3 else x.6.3) =(an r x c).6.3∧(bif c then x.6.4 else x.6.4) =(an r x c).6.4∧(bif c then x.6.5 else x.6.5) =(an r x c).6.5∧(bif c then x.7 else x.7) =(an r x c).7∧(bif c then IntKind.i64.wrap (x.8 +(1:Int)) else x.8) =(an r x c).8∧(bif c then x.9 else x.9) =(an r x c).9∧(bif c then x.10 else x.10) =(an r x c).10∧(nat_lit 0=nat_lit 0∧nat_lit 0=nat_lit 0)∧(bif c then x.12 else x.12) =(an r x c).12∧(nat_lit 1=nat_lit 1∧nat_lit 1=nat_lit 1)∧(nat_lit 2=nat_lit 2∧nat_lit 2=nat_lit 2)∧(bif c then x.15 else x.15) =(an r x c).15∧(nat_lit 3=nat_lit 3∧nat_lit 3=nat_lit 3)∧(bif c then x.17 else x.17) =(an r x c).17∧(bif c then IntKind.i64.wrap (x.18 +(1:Int)) else x.18) =(an r x c).18∧(bif c then x.19 else x.19) =(an r x c).19∧(bif c then x.20 else x.20) =(an r x c).20∧(nat_lit 4=nat_lit 4∧nat_lit 4=nat_lit 4)∧(bif c then x.22.1 else x.22.1) =(an r x c).22.1∧(bif c then x.22.2.1 else x.22.2.1) =(an r x c).22.2.1∧(bif c then x.23 else x.23) =(an r x c).23∧True)∧false=iu r x c∧True)∧ [RowD.mk (Ty.int IntKind.u8) x.11,RowD.mk (Ty.int IntKind.i64) (x.13++[x.12]),RowD.mk (Ty.int IntKind.i64) x.14,RowD.mk (Ty.int IntKind.i64) (bif c then x.16.set (IntKind.i64.wrap (x.12 - (1:Int))).toNat (IntKind.i64.wrap (x.16.getD (IntKind.i64.wrap (x.12 - (1:Int))).toNat (dflt (Ty.int IntKind.i64)) +(1:Int))) else x.16),RowD.mk Ty.bool x.21]=[RowD.mk (Ty.int IntKind.u8) (an r x c).11,RowD.mk (Ty.int IntKind.i64) (an r x c).13,RowD.mk (Ty.int IntKind.i64) (an r x c).14,RowD.mk (Ty.int IntKind.i64) (an r x c).16,RowD.mk Ty.bool (an r x c).21])∧(decide ((bif c then IntKind.i64.wrap (x.8 +(1:Int)) else x.8)<r.5)=false→(((bif c then x.1 else x.1) =(an r x c).1∧(bif c then x.2 else x.2) =(an r x c).2∧(bif c then x.3 else x.3) =(an r x c).3∧(bif c then x.4 else x.4) =(an r x c).4∧(bif c then x.5 else x.5) =(an r x c).5∧(bif c then x.6.1 else x.6.1) =(an r x c).6.1∧(bif c then x.6.2 else x.6.2) =(an r x c).6.2∧(bif c then x.6.3 else x.6.3) =(an r x c).6.3∧(bif c then x.6.4 else x.6.4) =(an r x c).6.4∧(bif c then x.6.5 else x.6.5) =(an r x c).6.5∧IntKind.i64.wrap ((bif c then x.7 else x.7) +(1:Int)) =(an r x c).7∧(0:Int) =(an r x c).8∧(bif c then x.9 else x.9) =(an r x c).9∧(bif c then x.10 else x.10) =(an r x c).10∧(nat_lit 0=nat_lit 0∧nat_lit 0=nat_lit 0)∧(0:Int) =(an r x c).12∧(nat_lit 1=nat_lit 1∧nat_lit 1=nat_lit 1)∧(nat_lit 2=nat_lit 2∧nat_lit 2=nat_lit 2)∧(bif c then x.15 else x.15) =(an r x c).15∧(nat_lit 3=nat_lit 3∧nat_lit 3=nat_lit 3)∧(bif c then x.17 else x.17) =(an r x c).17∧(bif c then IntKind.i64.wrap (x.18 +(1:Int)) else x.18) =(an r x c).18∧(bif c then x.19 else x.19) =(an r x c).19∧(bif c then x.20 else x.20) =(an r x c).20∧(nat_lit 4=nat_lit 4∧nat_lit 4=nat_lit 4)∧(bif c then x.22.1 else x.22.1) =(an r x c).22.1∧(bif c then x.22.2.1 else x.22.2.1) =(an r x c).22.2.1∧(bif c then x.23 else x.23) =(an r x c).23∧True)∧true=iu r x c∧True)∧ [RowD.mk (Ty.int IntKind.u8) x.11,RowD.mk (Ty.int IntKind.i64) [],RowD.mk (Ty.int IntKind.i64) (x.13++[x.12]),RowD.mk (Ty.int IntKind.i64) (bif c then x.16.set (IntKind.i64.wrap (x.12 - (1:Int))).toNat (IntKind.i64.wrap (x.16.getD (IntKind.i64.wrap (x.12 - (1:Int))).toNat (dflt (Ty.int IntKind.i64)) +(1:Int))) else x.16),RowD.mk Ty.bool x.21]=[RowD.mk (Ty.int IntKind.u8) (an r x c).11,RowD.mk (Ty.int IntKind.i64) (an r x c).13,RowD.mk (Ty.int IntKind.i64) (an r x c).14,RowD.mk (Ty.int IntKind.i64) (an r x c).16,RowD.mk Ty.bool (an r x c).21])))∧((!fI x.13 x.12)=false→((c=true→((0:Int)≤IntKind.i64.wrap (x.12 - (1:Int))∧IntKind.i64.wrap (x.12 - (1:Int)) <(↑x.16.length:Int))∧((0:Int)≤IntKind.i64.wrap (x.12 - (1:Int))∧IntKind.i64.wrap (x.12 - (1:Int)) <(↑x.16.length:Int))∧True)∧(c=false→True))∧(true=true→(decide ((bif c then IntKind.i64.wrap (x.8 +(1:Int)) else x.8)<r.5)=true→(((bif c then x.1 else x.1) =(an r x c).1∧(bif c then x.2 else x.2) =(an r x c).2∧(bif c then x.3 else x.3) =(an r x c).3∧(bif c then x.4 else x.4) =(an r x c).4∧(bif c then x.5 else x.5) =(an r x c).5∧(bif c then x.6.1 else x.6.1) =(an r x c).6.1∧(bif c then x.6.2 else x.6.2) =(an r x c).6.2∧(bif c then x.6.3 else x.6.3) =(an r x c).6.3∧(bif c then x.6.4 else x.6.4) =(an r x c).6.4∧(bif c then x.6.5 else x.6.5) =(an r x c).6.5∧(bif c then x.7 else x.7) =(an r x c).7∧(bif c then IntKind.i64.wrap (x.8 +(1:Int)) else x.8) =(an r x c).8∧(bif c then x.9 else x.9) =(an r x c).9∧(bif c then x.10 else x.10) =(an r x c).10∧(nat_lit 0=nat_lit 0∧nat_lit 0=nat_lit 0)∧(bif c then x.12 else x.12) =(an r x c).12∧(nat_lit 1=nat_lit 1∧nat_lit 1=nat_lit 1)∧(nat_lit 2=nat_lit 2∧nat_lit 2=nat_lit 2)∧(bif c then x.15 else x.15) =(an r x c).15∧(nat_lit 3=nat_lit 3∧nat_lit 3=nat_lit 3)∧(bif c then x.17 else x.17) =(an r x c).17∧(bif c then IntKind.i64.wrap (x.18 +(1:Int)) else x.18) =(an r x c).18∧(bif c then x.19 else x.19) =(an r x c).19∧(bif c then x.20 else x.20) =(an r x c).20∧(nat_lit 4=nat_lit 4∧nat_lit 4=nat_lit 4)∧(bif c then x.22.1 else x.22.1) =(an r x c).22.1∧(bif c then x.22.2.1 else x.22.2.1) =(an r x c).22.2.1∧(bif c then x.23 else x.23) =(an r x c).23∧True)∧false=iu r x c∧True)∧ [RowD.mk (Ty.int IntKind.u8) x.11,RowD.mk (Ty.int IntKind.i64) x.13,RowD.mk (Ty.int IntKind.i64) x.14,RowD.mk (Ty.int IntKind.i64) (bif c then x.16.set (IntKind.i64.wrap (x.12 - (1:Int))).toNat (IntKind.i64.wrap (x.16.getD (IntKind.i64.wrap (x.12 - (1:Int))).toNat (dflt (Ty.int IntKind.i64)) +(1:Int))) else x.16),RowD.mk Ty.bool x.21]=[RowD.mk (Ty.int IntKind.u8) (an r x c).11,RowD.mk (Ty.int IntKind.i64) (an r x c).13,RowD.mk (Ty.int IntKind.i64) (an r x c).14,RowD.mk (Ty.int IntKind.i64) (an r x c).16,RowD.mk Ty.bool (an r x c).21])∧(decide ((bif c then IntKind.i64.wrap (x.8 +(1:Int)) else x.8)<r.5)=false→(((bif c then x.1 else x.1) =(an r x c).1∧(bif c then x.2 else x.2) =(an r x c).2∧(bif c then x.3 else x.3) =(an r x c).3∧(bif c then x.4 else x.4) =(an r x c).4∧(bif c then x.5 else x.5) =(an r x c).5∧(bif c then x.6.1 else x.6.1) =(an r x c).6.1∧(bif c then x.6.2 else x.6.2) =(an r x c).6.2∧(bif c then x.6.3 else x.6.3) =(an r x c).6.3∧(bif c then x.6.4 else x.6.4) =(an r x c).6.4∧(bif c then x.6.5 else x.6.5) =(an r x c).6.5∧IntKind.i64.wrap ((bif c then x.7 else x.7) +(1:Int)) =(an r x c).7∧(0:Int) =(an r x c).8∧(bif c then x.9 else x.9) =(an r x c).9∧(bif c then x.10 else x.10) =(an r x c).10∧(nat_lit 0=nat_lit 0∧nat_lit 0=nat_lit 0)∧(0:Int) =(an r x c).12∧(nat_lit 1=nat_lit 1∧nat_lit 1=nat_lit 1)∧(nat_lit 2=nat_lit 2∧nat_lit 2=nat_lit 2)∧(bif c then x.15 else x.15) =(an r x c).15∧(nat_lit 3=nat_lit 3∧nat_lit 3=nat_lit 3)∧(bif c then x.17 else x.17) =(an r x c).17∧(bif c then IntKind.i64.wrap (x.18 +(1:Int)) else x.18) =(an r x c).18∧(bif c then x.19 else x.19) =(an r x c).19∧(bif c then x.20 else x.20) =(an r x c).20∧(nat_lit 4=nat_lit 4∧nat_lit 4=nat_lit 4)∧(bif c then x.22.1 else x.22.1) =(an r x c).22.1∧(bif c then x.22.2.1 else x.22.2.1) =(an r x c).22.2.1∧(bif c then x.23 else x.23) =(an r x c).23∧True)∧true=iu r x c∧True)∧ [RowD.mk (Ty.int IntKind.u8) x.11,RowD.mk (Ty.int IntKind.i64) [],RowD.mk (Ty.int IntKind.i64) x.13,RowD.mk (Ty.int IntKind.i64) (bif c then x.16.set (IntKind.i64.wrap (x.12 - (1:Int))).toNat (IntKind.i64.wrap (x.16.getD (IntKind.i64.wrap (x.12 - (1:Int))).toNat (dflt (Ty.int IntKind.i64)) +(1:Int))) else x.16),RowD.mk Ty.bool x.21]=[RowD.mk (Ty.int IntKind.u8) (an r x c).11,RowD.mk (Ty.int IntKind.i64) (an r x c).13,RowD.mk (Ty.int IntKind.i64) (an r x c).14,RowD.mk (Ty.int IntKind.i64) (an r x c).16,RowD.mk Ty.bool (an r x c).21])))))
 have h0 :(bif !bF x x.Bowler then true else aC r != 0)=gK r x:=by simp only [gK];cases bF x x.Bowler <;> cases (aC r != 0) <;> rfl
 rw [h0]
 have hk:gK r x=false→IntKind.i64.wrap (x.Bowler - 1)=x.Bowler - 1∧0≤x.Bowler - 1∧x.Bowler - 1 <(x.Bowled.length:Int):=fun h=>xq hb (by
  cases hk:bF x x.Bowler with
  | true=>rfl
  | false=>simp only [gK,hk] at h;cases h)
 refine ⟨hs,fun h=>?_,fun h=>?_⟩
 ·rw [(Eg c h).1,(Eg c h).2];simp
 ·obtain ⟨ew,k1,k2⟩:=hk h
  rw [ew]
  have hd:x.Bowled.getD (x.Bowler - 1).toNat (dflt (Ty.int IntKind.i64))=x.Bowled.getD (x.Bowler - 1).toNat 0:=rfl
  refine ⟨fun h1=>⟨?_,⟨fun _=>⟨⟨k1,k2⟩,⟨k1,k2⟩,trivial⟩,fun _=>trivial⟩,fun _=>⟨fun h2=>?_,fun h2=>?_⟩⟩,fun h1=>⟨⟨fun _=>⟨⟨k1,k2⟩,⟨k1,k2⟩,trivial⟩,fun _=>trivial⟩,fun _=>⟨fun h2=>?_,fun h2=>?_⟩⟩⟩
  ·have:=hs.2.1
   simp only [List.length_cons,List.length_nil]
   omega
  ·have h1:fI x.Bowlers x.Bowler=false:=by simpa using h1
   rw [(qR h h2).1,(qR h h2).2]
   cases c <;> simp [cu,fk,rB,h1] <;> first|rfl|exact ⟨rfl,rfl⟩
  ·have h1:fI x.Bowlers x.Bowler=false:=by simpa using h1
   rw [(mn h h2).1,(mn h h2).2]
   cases c <;> simp [AO,cu,fk,rB,h1] <;> first|rfl|exact ⟨rfl,rfl⟩
  ·have h1:fI x.Bowlers x.Bowler=true:=by simpa using h1
   rw [(qR h h2).1,(qR h h2).2]
   cases c <;> simp [cu,fk,rB,h1] <;> first|rfl|exact ⟨rfl,rfl⟩
  ·have h1:fI x.Bowlers x.Bowler=true:=by simpa using h1
   rw [(mn h h2).1,(mn h h2).2]
   cases c <;> simp [AO,cu,fk,rB,h1] <;> first|rfl|exact ⟨rfl,rfl⟩
theorem Qw:CtrOK Tryz.prog K8 377 (ar K8 Fe yE):=by
 refine ba (C:=cf8 [k47,k83,k84,k85] Tryz.f377) (bG (.cons K5 (.cons NW (.cons NX (.cons sS .nil)))) _) mixed (fn:=Tryz.f377) Tryz.func377 (by kernel_rfl) (by kernel_rfl) (by kernel_rfl) (Λ:=fun _ _=>none) ?_ ?_ ?_
 ·exact fun _ _ _ _ _ _ _ _ h=>by cases h
 ·rintro ⟨r,x,c,⟨⟩⟩
  exact of_decide_eq_true (by kernel_rfl)
 ·rintro ⟨r,x,c,⟨⟩⟩ hw hn
  exact PN r x c (hn _ (List.mem_singleton.2 rfl)) (G9 (bf (aG hw)))
end Go.Proofs.YtffdpnmioidloaaGreatDoor
namespace Go.Proofs.YtffdpnmioidloaaGreatDoor
open Go Go.Mir
attribute [local irreducible] Go.Mir.DT.sat Go.Mir.evPat Go.Mir.RT.sat Go.Mir.evFn
abbrev qRI:Pat:=bZ [.nm .Rules,.nm .Innings]
def CV (r:Rules) (x:Innings):Bool:=r.Overs==0&&x.Overs==0||r.Overs != 0&&inW x.Overs 1 r.Overs
def Aw (r:Rules) (x:Innings):Bool:=(x.Batters.length:Int)==r.Side&&((x.Bowled.length:Int)==r.Side&&(x.Subs.length:Int)==r.Side)
def bP (r:Rules) (x:Innings):Bool:=
 aC r==0&&(inW x.Side 1 2&&(Aw r x&&(decide (x.Ending≤5)&&(nv x r.Side&&(inW x.Bowler 0 r.Side&&(inW x.Keeper 0 r.Side&&(iw x.Bowlers r.Side&&(iw x.Before r.Side&&(CV r x&&(inW x.InOver 0 (W (r.Balls - 1))&&sQ x))))))))))
def DW:Den (tyP qRI)→List Prop×Den (tyP aF):=fun x=>([ah x.2.1],(bP x.1 x.2.1,()))
def wR (r:Rules) (x:Innings):Int:=
 if !bP r x then 0 else if decide (x.Target>0)&&decide (x.Runs≥x.Target) then 3 else if cR x&&lS x then 1 else if decide (x.Overs>0)&&decide (x.Complete≥x.Overs) then 2 else 0
def Oc:Den (tyP qRI)→List Prop×Den (tyP qH):=fun x=>([ah x.2.1],(wR x.1 x.2.1,()))
def wI (r:Rules) (x:Innings):Int:=W (W (x.Complete*r.Balls)+x.InOver)
def Du:Den (tyP qRI)→List Prop×Den (tyP bA):=fun x=>([],(wI x.1 x.2.1,()))
def AR (x:Innings):Innings:={ x with Runs:=W (x.Runs+5),Extras:={ x.Extras with Penalties:=W (x.Extras.Penalties+5) } }
def JW:Den (tyP qIn)→List Prop×Den (tyP qIn):=fun x=>([ah x.1],(AR x.1,()))
def yc:Den (tyP qIn)→List Prop×Den (tyP qIn):=fun x=>([ah x.1],(x.1,()))
abbrev jU:Pat:=bZ [.nm .Rules,.nm .Innings,.nm .Event]
abbrev qIE:Pat:=bZ [.nm .Innings,.nm .Event]
def p9 (r:Rules) (x:Innings) (e:Mir.Event):Int:=if e.Side != x.Side then 2 else if r.Overs != 0 then 20 else 0
def m3 (r:Rules) (x:Innings) (e:Mir.Event):Innings:=if p9 r x e != 0 then x else { x with Ending:=4 }
def JN:Den (tyP jU)→List Prop×Den (tyP q2L):=fun x=>([ah x.2.1],(m3 x.1 x.2.1 x.2.2.1,p9 x.1 x.2.1 x.2.2.1,()))
def pK (e:Mir.Event):Int:=if e.Runs != 5 then 23 else 0
def qI (x:Innings) (e:Mir.Event):Innings:=if pK e != 0 then x else if e.Side==x.Side then AR x else if x.Target>0 then { x with Target:=W (x.Target+5) } else x
def tJ:Den (tyP qIE)→List Prop×Den (tyP q2L):=fun x=>([ah x.1],(qI x.1 x.2.1,pK x.2.1,()))
def Jg (x:Innings) (s:Int):Int:=if s==1 then x.Reviews.1 else x.Reviews.2.1
def l8 (r:Rules) (x:Innings) (s:Int):Int:=if !x.Fresh||decide (Jg x s≥r.Reviews) then 24 else 0
def wg (x:Innings) (s:Int):Innings:={ x with Reviews:=if s==1 then (W (x.Reviews.1+1),x.Reviews.2.1,()) else (x.Reviews.1,W (x.Reviews.2.1+1),()) }
def l9 (r:Rules) (x:Innings) (s:Int) (k:Bool):Innings:=if l8 r x s != 0 then x else if k then x else wg x s
def jE (s:Int):Prop:=s=1∨s=2
def yi:Den (tyP jU)→List Prop×Den (tyP q2L):=fun x=>([ah x.2.1,jE x.2.2.1.Side],(l9 x.1 x.2.1 x.2.2.1.Side x.2.2.1.Yes,l8 x.1 x.2.1 x.2.2.1.Side,()))
def ma (r:Rules) (x:Innings) (t o:Int):Bool:=
 r.Overs==0 ||(t==0&&o==0 ||(decide (t>0)&&(x.Target==0||decide (t≤x.Runs))||decide (o>0)&&(decide (o>r.Overs)||decide (W (o*r.Balls)<wI r x))))
def tG (r:Rules) (x:Innings) (t o:Int):Int:=if ma r x t o then 25 else 0
def JJ (x:Innings) (t:Int):Innings:=if t>0 then { x with Target:=t } else x
def Ml (x:Innings) (o:Int):Innings:=if o>0 then { x with Overs:=o } else x
def oX (r:Rules) (x:Innings) (t o:Int):Innings:=if ma r x t o then x else Ml (JJ x t) o
def yj:Den (tyP jU)→List Prop×Den (tyP q2L):=fun x=>([ah x.2.1],(oX x.1 x.2.1 x.2.2.1.Runs x.2.2.1.Overs,tG x.1 x.2.1 x.2.2.1.Runs x.2.2.1.Overs,()))
theorem GE (x:Innings) (hs:ah x) :(evPat (ao [k45,k90,k91] Tryz.f278) (fun _=>none) Tryz.f278 qIn qIn (x,())).sat fun z_=>z_ =(yc (x,())).2:=by
 refine cast (by kernel_rfl) (?_:x.11.length≤(1000000:Nat)∧x.13.length≤(1000000:Nat)∧x.14.length≤(1000000:Nat)∧x.16.length≤(1000000:Nat)∧x.21.length≤(1000000:Nat)∧(x,()) =(x,()))
 obtain ⟨h1,h2,h3,h4,h5⟩:=hs
 simp [h1,h2,h3,h4,h5]
def dx:FuncId×Ctr:=(278,af KE qIn qIn yc)
theorem gC:CtrOK Tryz.prog KE 278 (af KE qIn qIn yc):=by
 refine aw (C:=ao [k45,k90,k91] Tryz.f278) (al (.consU K4 rfl (.consU K9 rfl (.consU La rfl .nil))) _) mixed (fn:=Tryz.f278) Tryz.func278 (by kernel_rfl) (by kernel_rfl) (by kernel_rfl) (by kernel_rfl) (by kernel_rfl) (by kernel_rfl) (Λ:=fun _ _=>none) ?_ ?_
 ·exact fun _ _ _ _ _ _ _ _ h=>by cases h
 ·rintro ⟨x,⟨⟩⟩ hw hn
  exact GE x (hn _ List.mem_cons_self)
theorem GF (r:Rules) (x:Innings) (hs:ah x) :(evPat (ao [k85,cK,vr,Ib,vw] Tryz.f272) (fun _=>none) Tryz.f272 qRI aF (r,x,())).sat fun z_=>z_ =(DW (r,x,())).2:=by
 refine cast (by kernel_rfl) (?_:let r1:Bool:=inW x.8 (0:Int) (IntKind.i64.wrap (r.5 - (1:Int)));let r2:Bool:=bif r.4 !=(0:Int) then inW x.3 (1:Int) r.4 else false;let r3:Bool:=bif aC r !=(0:Int) then true else !inW x.1 (1:Int) (2:Int);let r4:Bool:=bif !nv x r.2 then true else bif !inW x.12 (0:Int) r.2 then true else bif !inW x.19 (0:Int) r.2 then true else bif !iw x.13 r.2 then true else !iw x.14 r.2;let r5:Bool:=bif (↑x.11.length:Int) != r.2 then true else bif (↑x.16.length:Int) != r.2 then true else bif (↑x.21.length:Int) != r.2 then true else decide (x.23 >(5:Int));let r6:Bool:=bif r.4 ==(0:Int) then bif x.3 ==(0:Int) then true else r2 else r2;(r3=true→(false,()) =(bP r x,()))∧(r3=false→(r5=true→(false,()) =(bP r x,()))∧(r5=false→(ah x∧((!nv x r.2)=true→True)∧((!nv x r.2)=false→((!inW x.12 (0:Int) r.2)=true→True)∧((!inW x.12 (0:Int) r.2)=false→((!inW x.19 (0:Int) r.2)=true→True)∧((!inW x.19 (0:Int) r.2)=false→((!iw x.13 r.2)=true→True)∧((!iw x.13 r.2)=false→True)))))∧(true=true→(r4=true→(false,()) =(bP r x,()))∧(r4=false→((r6=true→(r1=true→ah x∧True)∧(r1=false→True))∧(r6=false→True))∧(true=true→(bif r6 then bif r1 then sQ x else false else false,()) =(bP r x,())))))))
 intro r1 r2 r3 r4 r5 r6
 clear_value (hr1:r1=_) (hr2:r2=_) (hr3:r3=_) (hr4:r4=_) (hr5:r5=_) (hr6:r6=_)
 have e3:r3=!(aC r==0&&inW x.Side 1 2):=by grind
 have e5:r5=!(Aw r x&&decide (x.Ending≤5)):=by
  have hd:decide (x.Ending>5)=!decide (x.Ending≤5):=by by_cases h:x.Ending≤5 <;> simp [h] <;> omega
  rw [hr5,hd]
  unfold Aw
  cases h1 :(x.Batters.length:Int)==r.Side <;> cases h2 :(x.Bowled.length:Int)==r.Side <;> cases h3 :(x.Subs.length:Int)==r.Side <;> simp [bne,h1,h2,h3]
 have e4:r4=!(nv x r.Side&&(inW x.Bowler 0 r.Side&&(inW x.Keeper 0 r.Side&&(iw x.Bowlers r.Side&&iw x.Before r.Side)))):=by rw [hr4];cases nv x r.Side <;> cases inW x.Bowler 0 r.Side <;> cases inW x.Keeper 0 r.Side <;> cases iw x.Bowlers r.Side <;> rfl
 have e6:r6=CV r x:=by grind [CV]
 have hv:bP r x =(!r3&&(!r5&&(!r4&&(r6&&(r1&&sQ x))))):=by rw [e3,e5,e4,e6,hr1];unfold bP;simp only [Bool.not_not,Bool.and_assoc]
 rw [hv]
 cases r3 <;> cases r5 <;> cases r4 <;> cases r6 <;> cases r1 <;> simp [hs]
def oB:FuncId×Ctr:=(272,af KE qRI aF DW)
theorem sX:CtrOK Tryz.prog KE 272 (af KE qRI aF DW):=by
 refine aw (C:=ao [k85,cK,vr,Ib,vw] Tryz.f272) (al (.consU sS rfl (.consU eV rfl (.consU CD rfl (.consU Lo rfl (.consU CF rfl .nil))))) _) mixed (fn:=Tryz.f272) Tryz.func272 (by kernel_rfl) (by kernel_rfl) (by kernel_rfl) (by kernel_rfl) (by kernel_rfl) (by kernel_rfl) (Λ:=fun _ _=>none) ?_ ?_
 ·exact fun _ _ _ _ _ _ _ _ h=>by cases h
 ·rintro ⟨r,x,⟨⟩⟩ hw hn
  exact GF r x (hn _ List.mem_cons_self)
theorem GB (r:Rules) (x:Innings) :(evPat (ao [] Tryz.f384) (fun _=>none) Tryz.f384 qRI bA (r,x,())).sat fun z_=>z_ =(Du (r,x,())).2:=by
 refine cast (by kernel_rfl) (?_ :(IntKind.i64.wrap (IntKind.i64.wrap (x.7*r.5)+x.8),()) =(wI r x,()))
 rfl
def EH:FuncId×Ctr:=(384,af KE qRI bA Du)
theorem IM:CtrOK Tryz.prog KE 384 (af KE qRI bA Du):=by
 refine aw (C:=ao [] Tryz.f384) (al (CtrsOK.nil) _) mixed (fn:=Tryz.f384) Tryz.func384 (by kernel_rfl) (by kernel_rfl) (by kernel_rfl) (by kernel_rfl) (by kernel_rfl) (by kernel_rfl) (Λ:=fun _ _=>none) ?_ ?_
 ·exact fun _ _ _ _ _ _ _ _ h=>by cases h
 ·rintro ⟨r,x,⟨⟩⟩ hw hn
  exact GB r x
theorem Bp (x:Innings) (hs:ah x) :(evPat (ao [dx] Tryz.f323) (fun _=>none) Tryz.f323 qIn qIn (x,())).sat fun z_=>z_ =(JW (x,())).2:=by
 refine cast (by kernel_rfl) (?_:ah x∧(Innings.mk x.1 x.2 x.3 (IntKind.i64.wrap (x.4 +(5:Int))) x.5 (Extras.mk x.6.1 x.6.2 x.6.3 x.6.4 (IntKind.i64.wrap (x.6.5 +(5:Int)))) x.7 x.8 x.9 x.10 x.11 x.12 x.13 x.14 x.15 x.16 x.17 x.18 x.19 x.20 x.21 x.22 x.23,()) =(AR x,()))
 exact ⟨hs,rfl⟩
def jM:FuncId×Ctr:=(323,af KE qIn qIn JW)
theorem nW:CtrOK Tryz.prog KE 323 (af KE qIn qIn JW):=by
 refine aw (C:=ao [dx] Tryz.f323) (al (.consU gC rfl .nil) _) mixed (fn:=Tryz.f323) Tryz.func323 (by kernel_rfl) (by kernel_rfl) (by kernel_rfl) (by kernel_rfl) (by kernel_rfl) (by kernel_rfl) (Λ:=fun _ _=>none) ?_ ?_
 ·exact fun _ _ _ _ _ _ _ _ h=>by cases h
 ·rintro ⟨x,⟨⟩⟩ hw hn
  exact Bp x (hn _ List.mem_cons_self)
theorem Df (r:Rules) (x:Innings) (hs:ah x) :(evPat (ao [oB,gA,xr] Tryz.f322) (fun _=>none) Tryz.f322 qRI qH (r,x,())).sat fun z_=>z_ =(Oc (r,x,())).2:=by
 refine cast (by kernel_rfl) (?_:let r1:Bool:=bif cR x then (↑(Av x).length:Int) ==(0:Int) else false;let r2:Bool:=bif decide (x.2 >(0:Int)) then decide (x.4≥x.2) else false;let r3:Bool:=bif decide (x.3 >(0:Int)) then decide (x.7≥x.3) else false;ah x∧((!bP r x)=true→((0:Int),()) =(wR r x,()))∧((!bP r x)=false→(r2=true→((3:Int),()) =(wR r x,()))∧(r2=false→((cR x=true→ah x∧True)∧(cR x=false→True))∧(true=true→(r1=true→((1:Int),()) =(wR r x,()))∧(r1=false→(r3=true→((2:Int),()) =(wR r x,()))∧(r3=false→((0:Int),()) =(wR r x,())))))))
 intro r1 r2 r3
 clear_value (hr1:r1=_) (hr2:r2=_) (hr3:r3=_)
 grind [wR,lS]
def Aj:FuncId×Ctr:=(322,af KE qRI qH Oc)
theorem Gb:CtrOK Tryz.prog KE 322 (af KE qRI qH Oc):=by
 refine aw (C:=ao [oB,gA,xr] Tryz.f322) (al (.consU sX rfl (.consU mM rfl (.consU E4 rfl .nil))) _) mixed (fn:=Tryz.f322) Tryz.func322 (by kernel_rfl) (by kernel_rfl) (by kernel_rfl) (by kernel_rfl) (by kernel_rfl) (by kernel_rfl) (Λ:=fun _ _=>none) ?_ ?_
 ·exact fun _ _ _ _ _ _ _ _ h=>by cases h
 ·rintro ⟨r,x,⟨⟩⟩ hw hn
  exact Df r x (hn _ List.mem_cons_self)
theorem Bn (r:Rules) (x:Innings) (e:Mir.Event) (hs:ah x) :(evPat (ao [dx] Tryz.f351) (fun _=>none) Tryz.f351 jU q2L (r,x,e,())).sat fun z_=>z_ =(JN (r,x,e,())).2:=by
 refine cast (by kernel_rfl) (?_:ah x∧((e.2 != x.1)=true→(x,(2:Int),()) =(m3 r x e,p9 r x e,()))∧((e.2 != x.1)=false→((r.4 !=(0:Int))=true→(x,(20:Int),()) =(m3 r x e,p9 r x e,()))∧((r.4 !=(0:Int))=false→(Innings.mk x.1 x.2 x.3 x.4 x.5 x.6 x.7 x.8 x.9 x.10 x.11 x.12 x.13 x.14 x.15 x.16 x.17 x.18 x.19 x.20 x.21 x.22 (4:Int),(0:Int),()) =(m3 r x e,p9 r x e,()))))
 grind [m3,p9]
def vu:FuncId×Ctr:=(351,af KE jU q2L JN)
theorem CE:CtrOK Tryz.prog KE 351 (af KE jU q2L JN):=by
 refine aw (C:=ao [dx] Tryz.f351) (al (.consU gC rfl .nil) _) mixed (fn:=Tryz.f351) Tryz.func351 (by kernel_rfl) (by kernel_rfl) (by kernel_rfl) (by kernel_rfl) (by kernel_rfl) (by kernel_rfl) (Λ:=fun _ _=>none) ?_ ?_
 ·exact fun _ _ _ _ _ _ _ _ h=>by cases h
 ·rintro ⟨r,x,e,⟨⟩⟩ hw hn
  exact Bn r x e (hn _ List.mem_cons_self)
theorem Mi (x:Innings) (e:Mir.Event) (hs:ah x) :(evPat (ao [dx,jM] Tryz.f352) (fun _=>none) Tryz.f352 qIE q2L (x,e,())).sat fun z_=>z_ =(tJ (x,e,())).2:=by
 refine cast (by kernel_rfl) (?_:let r1:Bool:=decide (x.2 >(0:Int));ah x∧((e.6 !=(5:Int))=true→(x,(23:Int),()) =(qI x e,pK e,()))∧((e.6 !=(5:Int))=false→((e.2==x.1)=true→ah x∧(Innings.mk x.1 x.2 x.3 (W (x.4 +(5:Int))) x.5 (Extras.mk x.6.1 x.6.2 x.6.3 x.6.4 (W (x.6.5 +(5:Int)))) x.7 x.8 x.9 x.10 x.11 x.12 x.13 x.14 x.15 x.16 x.17 x.18 x.19 x.20 x.21 x.22 x.23,(0:Int),()) =(qI x e,pK e,()))∧((e.2==x.1)=false→(Innings.mk (bif r1 then x.1 else x.1) (bif r1 then IntKind.i64.wrap (x.2 +(5:Int)) else x.2) (bif r1 then x.3 else x.3) (bif r1 then x.4 else x.4) (bif r1 then x.5 else x.5) (Extras.mk (bif r1 then x.6.1 else x.6.1) (bif r1 then x.6.2 else x.6.2) (bif r1 then x.6.3 else x.6.3) (bif r1 then x.6.4 else x.6.4) (bif r1 then x.6.5 else x.6.5)) (bif r1 then x.7 else x.7) (bif r1 then x.8 else x.8) (bif r1 then x.9 else x.9) (bif r1 then x.10 else x.10) (bif r1 then x.11 else x.11) (bif r1 then x.12 else x.12) (bif r1 then x.13 else x.13) (bif r1 then x.14 else x.14) (bif r1 then x.15 else x.15) (bif r1 then x.16 else x.16) (bif r1 then x.17 else x.17) (bif r1 then x.18 else x.18) (bif r1 then x.19 else x.19) (bif r1 then x.20 else x.20) (bif r1 then x.21 else x.21) (bif r1 then x.22.1 else x.22.1,bif r1 then x.22.2.1 else x.22.2.1,()) (bif r1 then x.23 else x.23),(0:Int),()) =(qI x e,pK e,()))))
 intro r1
 clear_value (hr1:r1=_)
 simp only [Bool.cond_self]
 refine ⟨hs,fun h=>?_,fun h=>⟨fun h2=>⟨hs,?_⟩,fun h2=>?_⟩⟩
 ·have e1:pK e=23:=by simp only [pK,h];rfl
  simp only [qI,e1];rfl
 ·have e1:pK e=0:=by simp only [pK,h];rfl
  simp only [qI,e1,h2];rfl
 ·have e1:pK e=0:=by simp only [pK,h];rfl
  simp only [qI,e1,h2]
  cases r1 with
  | true=>have:x.Target>0:=of_decide_eq_true hr1.symm;simp only [if_pos this];rfl
  | false=>have :¬ x.Target>0:=of_decide_eq_false hr1.symm;simp only [if_neg this];rfl
def ML:FuncId×Ctr:=(352,af KE qIE q2L tJ)
theorem N4:CtrOK Tryz.prog KE 352 (af KE qIE q2L tJ):=by
 refine aw (C:=ao [dx,jM] Tryz.f352) (al (.consU gC rfl (.consU nW rfl .nil)) _) mixed (fn:=Tryz.f352) Tryz.func352 (by kernel_rfl) (by kernel_rfl) (by kernel_rfl) (by kernel_rfl) (by kernel_rfl) (by kernel_rfl) (Λ:=fun _ _=>none) ?_ ?_
 ·exact fun _ _ _ _ _ _ _ _ h=>by cases h
 ·rintro ⟨x,e,⟨⟩⟩ hw hn
  exact Mi x e (hn _ List.mem_cons_self)
theorem Dg (r:Rules) (x:Innings) (e:Mir.Event) (hs:ah x) (h2:jE e.Side) :(evPat (ao [dx] Tryz.f353) (fun _=>none) Tryz.f353 jU q2L (r,x,e,())).sat fun z_=>z_ =(yi (r,x,e,())).2:=by
 refine cast (by kernel_rfl) (?_:let r1:Bool:=decide (x.22.1≥r.12);let r2:Int:=IntKind.i64.wrap (e.2 - (1:Int));let r3:Bool:=decide (x.22.2.1≥r.12);let r4:Bool:=r2 ==(0:Int);let r5:Bool:=r2 ==(1:Int);ah x∧((!x.15)=true→(x,(24:Int),()) =(l9 r x e.2 e.5,l8 r x e.2,()))∧((!x.15)=false→(r4=true→((0:Int)≤(0:Int)∧(0:Int) <(↑(2:Nat):Int))∧(r1=true→(x,(24:Int),()) =(l9 r x e.2 e.5,l8 r x e.2,()))∧(r1=false→((!e.5)=true→(r4=true→((0:Int)≤(0:Int)∧(0:Int) <(↑(2:Nat):Int))∧((0:Int)≤(0:Int)∧(0:Int) <(↑(2:Nat):Int))∧(Innings.mk x.1 x.2 x.3 x.4 x.5 x.6 x.7 x.8 x.9 x.10 x.11 x.12 x.13 x.14 x.15 x.16 x.17 x.18 x.19 x.20 x.21 (IntKind.i64.wrap (x.22.1 +(1:Int)),x.22.2) x.23,(0:Int),()) =(l9 r x e.2 e.5,l8 r x e.2,()))∧(r4=false→(r5=true→((0:Int)≤(1:Int)∧(1:Int) <(↑(2:Nat):Int))∧((0:Int)≤(1:Int)∧(1:Int) <(↑(2:Nat):Int))∧(Innings.mk x.1 x.2 x.3 x.4 x.5 x.6 x.7 x.8 x.9 x.10 x.11 x.12 x.13 x.14 x.15 x.16 x.17 x.18 x.19 x.20 x.21 (x.22.1,IntKind.i64.wrap (x.22.2.1 +(1:Int)),()) x.23,(0:Int),()) =(l9 r x e.2 e.5,l8 r x e.2,()))∧(r5=false→False∧True)))∧((!e.5)=false→(x,(0:Int),()) =(l9 r x e.2 e.5,l8 r x e.2,()))))∧(r4=false→(r5=true→((0:Int)≤(1:Int)∧(1:Int) <(↑(2:Nat):Int))∧(r3=true→(x,(24:Int),()) =(l9 r x e.2 e.5,l8 r x e.2,()))∧(r3=false→((!e.5)=true→(r4=true→((0:Int)≤(0:Int)∧(0:Int) <(↑(2:Nat):Int))∧((0:Int)≤(0:Int)∧(0:Int) <(↑(2:Nat):Int))∧(Innings.mk x.1 x.2 x.3 x.4 x.5 x.6 x.7 x.8 x.9 x.10 x.11 x.12 x.13 x.14 x.15 x.16 x.17 x.18 x.19 x.20 x.21 (IntKind.i64.wrap (x.22.1 +(1:Int)),x.22.2) x.23,(0:Int),()) =(l9 r x e.2 e.5,l8 r x e.2,()))∧(r4=false→(r5=true→((0:Int)≤(1:Int)∧(1:Int) <(↑(2:Nat):Int))∧((0:Int)≤(1:Int)∧(1:Int) <(↑(2:Nat):Int))∧(Innings.mk x.1 x.2 x.3 x.4 x.5 x.6 x.7 x.8 x.9 x.10 x.11 x.12 x.13 x.14 x.15 x.16 x.17 x.18 x.19 x.20 x.21 (x.22.1,IntKind.i64.wrap (x.22.2.1 +(1:Int)),()) x.23,(0:Int),()) =(l9 r x e.2 e.5,l8 r x e.2,()))∧(r5=false→False∧True)))∧((!e.5)=false→(x,(0:Int),()) =(l9 r x e.2 e.5,l8 r x e.2,()))))∧(r5=false→False∧True))))
 intro r1 r2 r3 r4 r5
 clear_value (hr1:r1=_) (hr2:r2=_) (hr3:r3=_) (hr4:r4=_) (hr5:r5=_)
 rcases h2 with hS|hS
 ·have e4:r4=true:=by rw [hr4,hr2,hS];rfl
  have hL:l8 r x e.Side=if !x.Fresh||r1 then 24 else 0:=by simp only [l8,Jg,hS];rw [hr1];rfl
  have hU:wg x e.Side={ x with Reviews:=(W (x.Reviews.1+1),x.Reviews.2.1,()) }:=by simp only [wg,hS];rfl
  clear hr1 hr2 hr3 hr4 hr5
  cases hf:x.Fresh <;> cases r1 <;> cases hk:e.Yes <;> simp [e4,hs,l9,hL,hU,hf,hk]
 ·have e4:r4=false:=by rw [hr4,hr2,hS];rfl
  have e5:r5=true:=by rw [hr5,hr2,hS];rfl
  have hL:l8 r x e.Side=if !x.Fresh||r3 then 24 else 0:=by simp only [l8,Jg,hS];rw [hr3];rfl
  have hU:wg x e.Side={ x with Reviews:=(x.Reviews.1,W (x.Reviews.2.1+1),()) }:=by simp only [wg,hS];rfl
  clear hr1 hr2 hr3 hr4 hr5
  cases hf:x.Fresh <;> cases r3 <;> cases hk:e.Yes <;> simp [e4,e5,hs,l9,hL,hU,hf,hk]
def Ak:FuncId×Ctr:=(353,af KE jU q2L yi)
theorem Gc:CtrOK Tryz.prog KE 353 (af KE jU q2L yi):=by
 refine aw (C:=ao [dx] Tryz.f353) (al (.consU gC rfl .nil) _) mixed (fn:=Tryz.f353) Tryz.func353 (by kernel_rfl) (by kernel_rfl) (by kernel_rfl) (by kernel_rfl) (by kernel_rfl) (by kernel_rfl) (Λ:=fun _ _=>none) ?_ ?_
 ·exact fun _ _ _ _ _ _ _ _ h=>by cases h
 ·rintro ⟨r,x,e,⟨⟩⟩ hw hn
  exact Dg r x e (hn _ List.mem_cons_self) (hn _ (List.mem_cons_of_mem _ List.mem_cons_self))
theorem Dh (r:Rules) (x:Innings) (e:Mir.Event) (hs:ah x) :(evPat (ao [dx,EH] Tryz.f354) (fun _=>none) Tryz.f354 jU q2L (r,x,e,())).sat fun z_=>z_ =(yj (r,x,e,())).2:=by
 refine cast (by kernel_rfl) (?_:let r1:Bool:=decide (e.6 >(0:Int));let r2:Bool:=decide (e.7 >(0:Int));let r3:Int:=bif r1 then x.1 else x.1;let r4:Int:=bif r1 then e.6 else x.2;let r5:Int:=bif r1 then x.4 else x.4;let r6:Int:=bif r1 then x.5 else x.5;let r7:Int:=bif r1 then x.7 else x.7;let r8:Int:=bif r1 then x.8 else x.8;let r9:Int:=bif r1 then x.9 else x.9;let r10:Int:=bif r1 then x.10 else x.10;let r11:Int:=bif r1 then x.12 else x.12;let r12:Bool:=bif r1 then x.15 else x.15;let r13:Bool:=bif r1 then x.17 else x.17;let r14:Int:=bif r1 then x.18 else x.18;let r15:Int:=bif r1 then x.19 else x.19;let r16:Int:=bif r1 then x.20 else x.20;let r17:Int:=bif r1 then x.23 else x.23;let r18:Int:=bif r1 then x.6.1 else x.6.1;let r19:Int:=bif r1 then x.6.2 else x.6.2;let r20:Int:=bif r1 then x.6.3 else x.6.3;let r21:Int:=bif r1 then x.6.4 else x.6.4;let r22:Int:=bif r1 then x.6.5 else x.6.5;let r23:List Bool:=bif r1 then x.21 else x.21;let r24:Int:=bif r1 then x.22.1 else x.22.1;let r25:List Int:=bif r1 then x.11 else x.11;let r26:List Int:=bif r1 then x.13 else x.13;let r27:List Int:=bif r1 then x.14 else x.14;let r28:List Int:=bif r1 then x.16 else x.16;let r29:Int:=bif r1 then x.22.2.1 else x.22.2.1;let r30:Bool:=bif r.4 ==(0:Int) then true else bif e.6 ==(0:Int) then e.7 ==(0:Int) else false;let r31:Bool:=bif r1 then bif x.2 ==(0:Int) then true else decide (e.6≤x.4) else false;let r32:Bool:=bif r2 then bif decide (e.7>r.4) then true else decide (IntKind.i64.wrap (e.7*r.5)<wI r x) else false;ah x∧(r30=true→(x,(25:Int),()) =(oX r x e.6 e.7,tG r x e.6 e.7,()))∧(r30=false→(r31=true→(x,(25:Int),()) =(oX r x e.6 e.7,tG r x e.6 e.7,()))∧(r31=false→(r32=true→(x,(25:Int),()) =(oX r x e.6 e.7,tG r x e.6 e.7,()))∧(r32=false→(Innings.mk (bif r2 then r3 else r3) (bif r2 then r4 else r4) (bif r2 then e.7 else bif r1 then x.3 else x.3) (bif r2 then r5 else r5) (bif r2 then r6 else r6) (Extras.mk (bif r2 then r18 else r18) (bif r2 then r19 else r19) (bif r2 then r20 else r20) (bif r2 then r21 else r21) (bif r2 then r22 else r22)) (bif r2 then r7 else r7) (bif r2 then r8 else r8) (bif r2 then r9 else r9) (bif r2 then r10 else r10) (bif r2 then r25 else r25) (bif r2 then r11 else r11) (bif r2 then r26 else r26) (bif r2 then r27 else r27) (bif r2 then r12 else r12) (bif r2 then r28 else r28) (bif r2 then r13 else r13) (bif r2 then r14 else r14) (bif r2 then r15 else r15) (bif r2 then r16 else r16) (bif r2 then r23 else r23) (bif r2 then r24 else r24,bif r2 then r29 else r29,()) (bif r2 then r17 else r17),(0:Int),()) =(oX r x e.6 e.7,tG r x e.6 e.7,())))))
 intro r1 r2 r3 r4 r5 r6 r7 r8 r9 r10 r11 r12 r13 r14 r15 r16 r17 r18 r19 r20 r21 r22 r23 r24 r25 r26 r27 r28 r29 r30 r31 r32
 clear_value (hr1:r1=_) (hr2:r2=_) (hr3:r3=_) (hr4:r4=_) (hr5:r5=_) (hr6:r6=_) (hr7:r7=_) (hr8:r8=_) (hr9:r9=_) (hr10:r10=_) (hr11:r11=_) (hr12:r12=_) (hr13:r13=_) (hr14:r14=_) (hr15:r15=_) (hr16:r16=_) (hr17:r17=_) (hr18:r18=_) (hr19:r19=_) (hr20:r20=_) (hr21:r21=_) (hr22:r22=_) (hr23:r23=_) (hr24:r24=_) (hr25:r25=_) (hr26:r26=_) (hr27:r27=_) (hr28:r28=_) (hr29:r29=_) (hr30:r30=_) (hr31:r31=_) (hr32:r32=_)
 simp only [Bool.cond_self] at *
 have hb:ma r x e.Runs e.Overs =(r30 ||(r31||r32)):=by grind [ma]
 clear hr30 hr31 hr32
 subst hr3 hr5 hr6 hr7 hr8 hr9 hr10 hr11 hr12 hr13 hr14 hr15 hr16 hr17 hr18 hr19 hr20 hr21 hr22 hr23 hr24 hr25 hr26 hr27 hr28 hr29
 subst hr4
 refine ⟨hs,fun h=>?_,fun h=>⟨fun h2=>?_,fun h2=>⟨fun h3=>?_,fun h3=>?_⟩⟩⟩
 ·have hb':ma r x e.Runs e.Overs=true:=by rw [hb,h];rfl
  simp only [oX,tG,hb'];rfl
 ·have hb':ma r x e.Runs e.Overs=true:=by rw [hb,h,h2];rfl
  simp only [oX,tG,hb'];rfl
 ·have hb':ma r x e.Runs e.Overs=true:=by rw [hb,h,h2,h3];rfl
  simp only [oX,tG,hb'];rfl
 ·have hb':ma r x e.Runs e.Overs=false:=by rw [hb,h,h2,h3];rfl
  simp only [oX,tG,hb',JJ,Ml]
  cases r1 with
  | true=>
   have h1:e.Runs>0:=of_decide_eq_true hr1.symm
   cases r2 with
   | true=>have h2:e.Overs>0:=of_decide_eq_true hr2.symm;simp only [if_pos h1,if_pos h2];rfl
   | false=>have h2 :¬ e.Overs>0:=of_decide_eq_false hr2.symm;simp only [if_pos h1,if_neg h2];rfl
  | false=>
   have h1 :¬ e.Runs>0:=of_decide_eq_false hr1.symm
   cases r2 with
   | true=>have h2:e.Overs>0:=of_decide_eq_true hr2.symm;simp only [if_neg h1,if_pos h2];rfl
   | false=>have h2 :¬ e.Overs>0:=of_decide_eq_false hr2.symm;simp only [if_neg h1,if_neg h2];rfl
def Al:FuncId×Ctr:=(354,af KE jU q2L yj)
theorem Gd:CtrOK Tryz.prog KE 354 (af KE jU q2L yj):=by
 refine aw (C:=ao [dx,EH] Tryz.f354) (al (.consU gC rfl (.consU IM rfl .nil)) _) mixed (fn:=Tryz.f354) Tryz.func354 (by kernel_rfl) (by kernel_rfl) (by kernel_rfl) (by kernel_rfl) (by kernel_rfl) (by kernel_rfl) (Λ:=fun _ _=>none) ?_ ?_
 ·exact fun _ _ _ _ _ _ _ _ h=>by cases h
 ·rintro ⟨r,x,e,⟨⟩⟩ hw hn
  exact Dh r x e (hn _ List.mem_cons_self)
end Go.Proofs.YtffdpnmioidloaaGreatDoor
namespace Go.Proofs.YtffdpnmioidloaaGreatDoor
open Go Go.Mir
end Go.Proofs.YtffdpnmioidloaaGreatDoor
namespace Go.Proofs.YtffdpnmioidloaaGreatDoor
open Go Go.Mir
theorem sj :∀ (m:Nat) (l:List Int),l.Nodup→(∀ x∈l,1≤x∧x≤(m:Int))→l.length≤m
 | 0,l,_,h=>by
  cases l with
  | nil=>simp
  | cons x l=>have:=h x List.mem_cons_self;omega
 | m+1,l,hn,h=>by
  have ih:=sj m (l.erase ((m+1:Nat):Int)) (hn.erase _) (fun x hx=>by
   have h1:=(hn.mem_erase_iff).1 hx
   have h2:=h x h1.2
   have:=h1.1
   omega)
  by_cases hm :((m+1:Nat):Int)∈l
  ·rw [List.length_erase_of_mem hm] at ih;omega
  ·rw [List.erase_of_not_mem hm] at ih;omega
theorem rI {most:Int} :∀ (l seen:List Int),uX most seen l=true→seen.Nodup→(∀ x∈seen,1≤x∧x≤most)→(seen++l).Nodup∧(∀ x∈seen++l,1≤x∧x≤most)
 | [],seen,_,h1,h2=>by simpa using ⟨h1,h2⟩
 | n::r,seen,h,h1,h2=>by
  unfold uX at h
  split at h
  ·cases h
  ·rename_i hc
   have hc :(!inW n 1 most||fI seen n)=false:=by simpa using hc
   simp only [Bool.or_eq_false_iff,Bool.not_eq_false',inW,Bool.and_eq_true,decide_eq_true_eq] at hc
   obtain ⟨⟨c1,c2⟩,c3⟩:=hc
   have c4:n∉seen:=fun hm=>by
    have:fI seen n=true:=by unfold fI;simpa using hm
    rw [this] at c3;cases c3
   have:=rI r (seen++[n]) h (by
    rw [List.nodup_append]
    refine ⟨h1,by simp,?_⟩
    intro a ha b hb e
    simp only [List.mem_singleton] at hb
    subst hb;subst e;exact c4 ha) (fun x hx=>by
    rcases List.mem_append.1 hx with hx|hx
    ·exact h2 x hx
    ·simp only [List.mem_singleton] at hx;subst hx;exact ⟨c1,c2⟩)
   rwa [List.append_assoc] at this
theorem qa {most:Int} {l:List Int} (h:iw l most=true) :(l.length:Int)≤most∨l=[]:=by
 cases l with
 | nil=>exact .inr rfl
 | cons n r=>
  left
  obtain ⟨h1,h2⟩:=rI (n::r) [] h .nil (fun x hx=>by cases hx)
  simp only [List.nil_append] at h1 h2
  have h3:=h2 n List.mem_cons_self
  have:=sj most.toNat (n::r) h1 (fun x hx=>by have:=h2 x hx;omega)
  omega
theorem fb {r:Rules} (h:aC r=0) :(2≤r.Side∧r.Side≤11)∧(0≤r.Overs∧r.Overs≤90)∧(4≤r.Balls∧r.Balls≤8):=by
 have hr:cq r=true:=by
  cases hr:cq r with
  | true=>rfl
  | false=>
   unfold aC at h
   cases hn:lR r.Name <;> simp [hn,hr] at h
 simp only [cq,aX,Bool.and_eq_true,decide_eq_true_eq] at hr
 omega
end Go.Proofs.YtffdpnmioidloaaGreatDoor
namespace Go.Proofs.YtffdpnmioidloaaGreatDoor
open Go Go.Mir
attribute [local irreducible] Go.Mir.DT.sat Go.Mir.evPat Go.Mir.RT.sat Go.Mir.evFn
end Go.Proofs.YtffdpnmioidloaaGreatDoor
namespace Go.Proofs.YtffdpnmioidloaaGreatDoor
open Go Go.Mir
attribute [local irreducible] Go.Mir.DT.sat Go.Mir.evPat Go.Mir.RT.sat Go.Mir.evFn
abbrev Ba:Pat:=bZ [.nm .Rules,.nm .Innings,.nm .Delivery]
def iU (r:Rules) (x:Innings) (d:Delivery):Int:=
 if cR x then 6 else if x.Bowler==0 then 7 else if kI r x != 0 then kI r x else if bJ d != 0 then bJ d else if bD d x.FreeHit != 0 then bD d x.FreeHit else iL x d
def tK:Den (tyP Ba)→List Prop×Den (tyP bA):=fun x=>([],(iU x.1 x.2.1 x.2.2.1,()))
def zn (x:Innings) (c:Credit):Innings:={ x with Runs:=W (x.Runs+bX c),Extras:={ x.Extras with Wides:=W (x.Extras.Wides+c.Wides),NoBalls:=W (x.Extras.NoBalls+c.NoBalls),Byes:=W (x.Extras.Byes+c.Byes),LegByes:=W (x.Extras.LegByes+c.LegByes) } }
def MS (y:Innings) (o:Bool):Innings:=if o then kc y else y
def m5 (r:Rules) (x:Innings) (d:Delivery):Innings:=if d.Typ==1 then { x with FreeHit:=false } else if d.Typ==3&&r.FreeHit then { x with FreeHit:=true } else x
def eb (r:Rules) (x:Innings) (c:Bool):Innings:=MS (an r x c) (iu r x c)
def fK (r:Rules) (x:Innings) (d:Delivery):Innings:=if iU r x d != 0 then x else m5 r (eb r (zn (bC x d) (aB r d)) (aB r d).Counts) d
def fE (x:Innings):Prop:=x.Batters.length≤999999∧x.Bowlers.length≤999999∧x.Before.length≤999999∧x.Bowled.length≤999999∧x.Subs.length≤999999
def JY:Den (tyP Ba)→List Prop×Den (tyP q2L):=fun x=>([fE x.2.1],(fK x.1 x.2.1 x.2.2.1,iU x.1 x.2.1 x.2.2.1,()))
theorem me {x:Innings} (h:fE x):ah x:=by
 obtain ⟨h1,h2,h3,h4,h5⟩:=h
 exact ⟨by omega,by omega,by omega,by omega,by omega⟩
theorem wc {x:Innings} (d:Delivery) (h:fE x):fE (bC x d):=by
 have e1 :(bC x d).Batters.length=x.Batters.length:=by
  unfold bC ek cy cm kc cn
  repeat' split
  all_goals simp
 have e2 :(bC x d).Bowlers=x.Bowlers∧(bC x d).Before=x.Before∧(bC x d).Bowled=x.Bowled∧(bC x d).Subs=x.Subs:=by
  unfold bC ek cy cm kc cn
  repeat' split
  all_goals exact ⟨rfl,rfl,rfl,rfl⟩
 obtain ⟨k2,k3,k4,k5⟩:=e2
 unfold fE
 rw [e1,k2,k3,k4,k5]
 exact h
theorem ry {r:Rules} {x:Innings} (c:Bool) (h:fE x):ah (an r x c):=by
 have hb :(fk x).length≤x.Bowlers.length+1:=by unfold fk;split <;> simp
 have hu :(rB x).length=x.Bowled.length:=by unfold rB;simp
 have hc :(cu x c).Batters=x.Batters∧(cu x c).Before=x.Before∧(cu x c).Subs=x.Subs∧(cu x c).Bowlers=fk x∧(cu x c).Bowled.length=x.Bowled.length:=by
  unfold cu;cases c
  ·exact ⟨rfl,rfl,rfl,rfl,rfl⟩
  ·exact ⟨rfl,rfl,rfl,rfl,hu⟩
 obtain ⟨c1,c2,c3,c4,c5⟩:=hc
 obtain ⟨h1,h2,h3,h4,h5⟩:=h
 unfold an
 split
 ·exact ⟨by omega,by omega,by omega,by omega,by omega⟩
 ·split
  ·unfold ah;rw [c1,c2,c3,c4,c5];exact ⟨by omega,by omega,by omega,by omega,by omega⟩
  ·unfold ah AO;simp only;rw [c1,c3,c4,c5];exact ⟨by omega,by simp,by omega,by omega,by omega⟩
theorem Br (r:Rules) (x:Innings) (d:Delivery) :(evPat (ao [gA,k40,gZ,k17,k42] Tryz.f375) (find [(rid (aH Tryz.f375 0),dY 5 (ao [gA,k40,gZ,k17,k42] Tryz.f375) (fun _=>none) (aH Tryz.f375 0))]) Tryz.f375 Ba bA (r,x,d,())).sat fun z_=>z_ =(tK (r,x,d,())).2:=by
 refine cast (by kernel_rfl) (?_:let r1:Int:=IntKind.i64.wrap ((0:Int) +(1:Int));let r2:List Int:= [kI r x,bJ d,bD d x.17,iL x d];let r3:Int:=IntKind.i64.wrap (r1 +(1:Int));let r4:Int:=(↑r2.length:Int);let r5:Int:=r2.getD (Int.toNat (0:Int)) (dflt (Ty.int IntKind.i64));let r6:Int:=IntKind.i64.wrap (r3 +(1:Int));let r7:Bool:=r5 !=(0:Int);let r8:Int:=r2.getD r1.toNat (dflt (Ty.int IntKind.i64));let r9:Bool:=r8 !=(0:Int);let r10:Int:=r2.getD r3.toNat (dflt (Ty.int IntKind.i64));let r11:Bool:=r10 !=(0:Int);let r12:Int:=r2.getD r6.toNat (dflt (Ty.int IntKind.i64));let r13:Bool:=r12 !=(0:Int);(cR x=true→((6:Int),()) =(iU r x d,()))∧(cR x=false→((x.12 ==(0:Int))=true→((7:Int),()) =(iU r x d,()))∧((x.12 ==(0:Int))=false→True∧((0:Int)≤(0:Int)∧(0:Int)<r4)∧(r7=true→(r5,()) =(iU r x d,()))∧(r7=false→((0:Int)≤r1∧r1<r4)∧(r9=true→(r8,()) =(iU r x d,()))∧(r9=false→((0:Int)≤r3∧r3<r4)∧(r11=true→(r10,()) =(iU r x d,()))∧(r11=false→((0:Int)≤r6∧r6<r4)∧(r13=true→(r12,()) =(iU r x d,()))∧(r13=false→((0:Int),()) =(iU r x d,()))))))))
 intro r1 r2 r3 r4 r5 r6 r7 r8 r9 r10 r11 r12 r13
 clear_value (hr1:r1=_) (hr2:r2=_) (hr3:r3=_) (hr4:r4=_) (hr5:r5=_) (hr6:r6=_) (hr7:r7=_) (hr8:r8=_) (hr9:r9=_) (hr10:r10=_) (hr11:r11=_) (hr12:r12=_) (hr13:r13=_)
 have n1:r1=1:=by rw [hr1];rfl
 have n3:r3=2:=by rw [hr3,n1];rfl
 have n6:r6=3:=by rw [hr6,n3];rfl
 have n4:r4=4:=by rw [hr4,hr2];rfl
 have e5:r5=kI r x:=by rw [hr5,hr2];rfl
 have e8:r8=bJ d:=by rw [hr8,hr2,n1];rfl
 have e10:r10=bD d x.FreeHit:=by rw [hr10,hr2,n3];rfl
 have e12:r12=iL x d:=by rw [hr12,hr2,n6];rfl
 clear hr1 hr2 hr3 hr4 hr5 hr6 hr8 hr10 hr12
 subst e5 e8 e10 e12 n1 n3 n4 n6
 unfold iU
 rw [←hr7,←hr9,←hr11]
 cases cR x <;> cases x.Bowler==0 <;> cases r7 <;> cases r9 <;> cases r11 <;> cases h13:r13 <;> simp
 all_goals (rw [h13] at hr13;simp at hr13;exact hr13.symm)
def vy:FuncId×Ctr:=(375,af KE Ba bA tK)
theorem CH:CtrOK Tryz.prog KE 375 (af KE Ba bA tK):=by
 refine aw (C:=ao [gA,k40,gZ,k17,k42] Tryz.f375) (al (.consU mM rfl (.consU Pw rfl (.consU lV rfl (.consU Pv rfl (.consU Px rfl .nil))))) _) mixed (fn:=Tryz.f375) Tryz.func375 (by kernel_rfl) (by kernel_rfl) (by kernel_rfl) (by kernel_rfl) (by kernel_rfl) (by kernel_rfl) (Λ:=fun x=>find [(rid (aH Tryz.f375 0),dY 5 (ao [gA,k40,gZ,k17,k42] Tryz.f375) (fun _=>none) (aH Tryz.f375 0))]) ?_ ?_
 ·rintro ⟨r,x,d,⟨⟩⟩ hw hn
  exact LoopsOKp.at (by kernel_rfl) (.cons (by kernel_rfl) (mP 5 (al (.consU mM rfl (.consU Pw rfl (.consU lV rfl (.consU Pv rfl (.consU Px rfl .nil))))) _) mixed (Λ:=fun _=>none) (b:=aH Tryz.f375 0) rfl (fun _ _ _ h=>by cases h)) .nil)
 ·rintro ⟨r,x,d,⟨⟩⟩ hw hn
  exact Br r x d
theorem Jz (r:Rules) (x:Innings) (d:Delivery) (hs:fE x) :(evPat (ao [dx,vy,iH,MJ,oA,k51,Af] Tryz.f343) (fun _=>none) Tryz.f343 Ba q2L (r,x,d,())).sat fun z_=>z_ =(JY (r,x,d,())).2:=by
 refine cast (by kernel_rfl) (?_:let r1:Bool:=iU r x d !=(0:Int);let r2:Bool:=bif d.1 ==(3:Int) then r.9 else false;let r3:Innings:=Innings.mk (bC x d).1 (bC x d).2 (bC x d).3 (IntKind.i64.wrap ((bC x d).4+bX (aB r d))) (bC x d).5 (Extras.mk (IntKind.i64.wrap ((bC x d).6.1 +(aB r d).2)) (IntKind.i64.wrap ((bC x d).6.2 +(aB r d).3)) (IntKind.i64.wrap ((bC x d).6.3 +(aB r d).4)) (IntKind.i64.wrap ((bC x d).6.4 +(aB r d).5)) (bC x d).6.5) (bC x d).7 (bC x d).8 (bC x d).9 (bC x d).10 (bC x d).11 (bC x d).12 (bC x d).13 (bC x d).14 (bC x d).15 (bC x d).16 (bC x d).17 (bC x d).18 (bC x d).19 (bC x d).20 (bC x d).21 (bC x d).22 (bC x d).23;let r4:Bool:=iu r r3 (aB r d).7;let r5:Innings:=an r r3 (aB r d).7;let r6:Bool:=bif d.1 ==(1:Int) then false else bif r2 then true else r5.17;let r7:Int:=bif d.1 ==(1:Int) then r5.1 else bif r2 then r5.1 else r5.1;let r8:Int:=bif d.1 ==(1:Int) then r5.2 else bif r2 then r5.2 else r5.2;let r9:Int:=bif d.1 ==(1:Int) then r5.3 else bif r2 then r5.3 else r5.3;let r10:Int:=bif d.1 ==(1:Int) then r5.4 else bif r2 then r5.4 else r5.4;let r11:Int:=bif d.1 ==(1:Int) then r5.5 else bif r2 then r5.5 else r5.5;let r12:Int:=bif d.1 ==(1:Int) then r5.7 else bif r2 then r5.7 else r5.7;let r13:Int:=bif d.1 ==(1:Int) then r5.8 else bif r2 then r5.8 else r5.8;let r14:Int:=bif d.1 ==(1:Int) then r5.10 else bif r2 then r5.10 else r5.10;let r15:Int:=bif d.1 ==(1:Int) then r5.9 else bif r2 then r5.9 else r5.9;let r16:Int:=bif d.1 ==(1:Int) then r5.12 else bif r2 then r5.12 else r5.12;let r17:Bool:=bif d.1 ==(1:Int) then r5.15 else bif r2 then r5.15 else r5.15;let r18:Int:=bif d.1 ==(1:Int) then r5.18 else bif r2 then r5.18 else r5.18;let r19:Int:=bif d.1 ==(1:Int) then r5.19 else bif r2 then r5.19 else r5.19;let r20:Int:=bif d.1 ==(1:Int) then r5.20 else bif r2 then r5.20 else r5.20;let r21:Int:=bif d.1 ==(1:Int) then r5.23 else bif r2 then r5.23 else r5.23;let r22:Extras:=Extras.mk (bif d.1 ==(1:Int) then r5.6.1 else bif r2 then r5.6.1 else r5.6.1) (bif d.1 ==(1:Int) then r5.6.2 else bif r2 then r5.6.2 else r5.6.2) (bif d.1 ==(1:Int) then r5.6.3 else bif r2 then r5.6.3 else r5.6.3) (bif d.1 ==(1:Int) then r5.6.4 else bif r2 then r5.6.4 else r5.6.4) (bif d.1 ==(1:Int) then r5.6.5 else bif r2 then r5.6.5 else r5.6.5);(r1=true→ah x∧(x,iU r x d,()) =(fK r x d,iU r x d,()))∧(r1=false→ah x∧ah r3∧(r4=true→ah r5∧(Innings.mk r7 r8 r9 r10 r11 r22 r12 r13 r14 r15 (bif d.1 ==(1:Int) then r5.11 else bif r2 then r5.11 else r5.11) r16 (bif d.1 ==(1:Int) then r5.13 else bif r2 then r5.13 else r5.13) (bif d.1 ==(1:Int) then r5.14 else bif r2 then r5.14 else r5.14) r17 (bif d.1 ==(1:Int) then r5.16 else bif r2 then r5.16 else r5.16) r6 r18 r19 r20 (bif d.1 ==(1:Int) then r5.21 else bif r2 then r5.21 else r5.21) (bif d.1 ==(1:Int) then r5.22.1 else bif r2 then r5.22.1 else r5.22.1,bif d.1 ==(1:Int) then r5.22.2.1 else bif r2 then r5.22.2.1 else r5.22.2.1,()) r21,(0:Int),()) =(fK r x d,iU r x d,()))∧(r4=false→(Innings.mk r7 r8 r9 r10 r11 r22 r12 r13 r15 r14 r5.11 r16 r5.13 r5.14 r17 r5.16 r6 r18 r19 r20 r5.21 (bif d.1 ==(1:Int) then r5.22.1 else bif r2 then r5.22.1 else r5.22.1,bif d.1 ==(1:Int) then r5.22.2.1 else bif r2 then r5.22.2.1 else r5.22.2.1,()) r21,(0:Int),()) =(fK r x d,iU r x d,()))))
 intro r1 r2 r3 r4 r5 r6 r7 r8 r9 r10 r11 r12 r13 r14 r15 r16 r17 r18 r19 r20 r21 r22
 clear_value (hr1:r1=_) (hr2:r2=_) (hr3:r3=_) (hr4:r4=_) (hr5:r5=_) (hr6:r6=_) (hr7:r7=_) (hr8:r8=_) (hr9:r9=_) (hr10:r10=_) (hr11:r11=_) (hr12:r12=_) (hr13:r13=_) (hr14:r14=_) (hr15:r15=_) (hr16:r16=_) (hr17:r17=_) (hr18:r18=_) (hr19:r19=_) (hr20:r20=_) (hr21:r21=_) (hr22:r22=_)
 simp only [Bool.cond_self] at *
 have e3:r3=zn (bC x d) (aB r d):=hr3
 have e22:r22=r5.Extras:=hr22
 have e2:r2 =(d.Typ==3&&r.FreeHit):=by rw [hr2];cases d.Typ==3 <;> rfl
 have s3:fE r3:=by rw [e3];exact wc d hs
 clear hr3 hr22 hr2
 subst hr7 hr8 hr9 hr10 hr11 hr12 hr13 hr14 hr15 hr16 hr17 hr18 hr19 hr20 hr21 e22
 refine ⟨fun h=>⟨me hs,?_⟩,fun h=>⟨me hs,me s3,fun h4=>⟨?_,?_⟩,fun h4=>?_⟩⟩
 ·rw [hr1] at h;simp only [fK,h];rfl
 ·rw [hr5];exact ry _ s3
 ·have hL:iU r x d=0:=by rw [hr1] at h;simpa using h
  have hp:fK r x d=m5 r (eb r r3 (aB r d).Counts) d:=by simp only [fK,hL,e3];rfl
  have ho:eb r r3 (aB r d).Counts=kc r5:=by unfold eb;rw [←hr4,←hr5,h4];rfl
  rw [hp,ho,hL]
  unfold m5
  rw [←e2,hr6]
  cases d.Typ==1 <;> cases r2 <;> rfl
 ·have hL:iU r x d=0:=by rw [hr1] at h;simpa using h
  have hp:fK r x d=m5 r (eb r r3 (aB r d).Counts) d:=by simp only [fK,hL,e3];rfl
  have ho:eb r r3 (aB r d).Counts=r5:=by unfold eb;rw [←hr4,←hr5,h4];rfl
  rw [hp,ho,hL]
  unfold m5
  rw [←e2,hr6]
  cases d.Typ==1 <;> cases r2 <;> rfl
def Ia:FuncId×Ctr:=(343,af KE Ba q2L JY)
theorem Ln:CtrOK Tryz.prog KE 343 (af KE Ba q2L JY):=by
 refine aw (C:=ao [dx,vy,iH,MJ,oA,k51,Af] Tryz.f343) (al (.consU gC rfl (.consU CH rfl (.consU mN rfl (.consU N2 rfl (.consU sW rfl (.consU Qw rfl (.consU F9 rfl .nil))))))) _) mixed (fn:=Tryz.f343) Tryz.func343 (by kernel_rfl) (by kernel_rfl) (by kernel_rfl) (by kernel_rfl) (by kernel_rfl) (by kernel_rfl) (Λ:=fun _ _=>none) ?_ ?_
 ·exact fun _ _ _ _ _ _ _ _ h=>by cases h
 ·rintro ⟨r,x,d,⟨⟩⟩ hw hn
  exact Jz r x d (hn _ List.mem_cons_self)
end Go.Proofs.YtffdpnmioidloaaGreatDoor
namespace Go.Proofs.YtffdpnmioidloaaGreatDoor
open Go Go.Mir
def Aq:Go.Shelf.Ren:=⟨fun|137=>108|217=>170|266=>214|n=>n,fun|9=>9|5=>5|3=>3|n=>n,fun|n=>n⟩
theorem KQ:Go.Proofs.Lays.n137 Tryz.prog Aq where
 mixed:=by kernel_rfl
 f137:=Tryz.func108.trans (congrArg some (by kernel_rfl))
 f217:=Tryz.func170.trans (congrArg some (by kernel_rfl))
 f266:=Tryz.func214.trans (congrArg some (by kernel_rfl))
 t3:=Tryz.underlying3
 a3:=Tryz.isAgg3
 z3:=Tryz.sizeOf3
 v3:=Tryz.zeroValue3
 t5:=Tryz.underlying5
 a5:=Tryz.isAgg5
 z5:=Tryz.sizeOf5
 v5:=Tryz.zeroValue5
 t9:=Tryz.underlying9
 a9:=Tryz.isAgg9
 z9:=Tryz.sizeOf9
 v9:=Tryz.zeroValue9
end Go.Proofs.YtffdpnmioidloaaGreatDoor
namespace Go.Proofs.YtffdpnmioidloaaGreatDoor
open Go Go.Mir
attribute [local irreducible] Go.Mir.DT.sat Go.Mir.evPat
def N8:Ty:= .prod .str (.prod (.int .u8) .unit)
def ixW (s:ByteArray) (c:Int):Int:=Lib.indexByte s.data.toList c.toNat.toUInt8
def J7:Den N8→PRes:=fun x=>⟨[],.int .i64 (ixW x.1 x.2.1),[]⟩
def kx:FuncId×Ctr:=(108,ar KE N8 J7)
def b8 (d:Delivery):Int:=
 if decide (d.Typ<1) ||(decide (d.Typ>3) ||(decide (d.Source>3)||decide (d.How>10))) then 3
 else if !inW d.Runs 0 7 ||(!inW d.Short 0 d.Runs ||(d.Boundary != 0&&(d.Boundary != 4&&d.Boundary != 6) ||(!inW d.Victim 0 2 ||(!inW d.Fielder 0 11 ||(!inW d.Second 0 11||!inW d.Sector 0 8))))) then 2 else 0
def JQ:Den (tyP qD)→List Prop×Den (tyP bA):=fun x=>([],(b8 x.1,()))
def formsW:List event_form:= [⟨⟨#[84,79,83,83]⟩,⟨#[115,121]⟩,⟨#[66,65,84]⟩,⟨#[70,73,69,76,68]⟩⟩,⟨⟨#[79,80,69,78]⟩,⟨#[112,111]⟩,⟨#[]⟩,⟨#[]⟩⟩,⟨⟨#[66,79,87,76]⟩,⟨#[112]⟩,⟨#[]⟩,⟨#[]⟩⟩,⟨⟨#[66,65,76,76]⟩,⟨#[98]⟩,⟨#[]⟩,⟨#[]⟩⟩,⟨⟨#[69,78,84,69,82]⟩,⟨#[112]⟩,⟨#[]⟩,⟨#[]⟩⟩,⟨⟨#[82,69,84,73,82,69]⟩,⟨#[112,121]⟩,⟨#[72,85,82,84]⟩,⟨#[79,85,84]⟩⟩,⟨⟨#[70,73,69,76,68]⟩,⟨#[114]⟩,⟨#[]⟩,⟨#[]⟩⟩,⟨⟨#[75,69,69,80,69,82]⟩,⟨#[112]⟩,⟨#[]⟩,⟨#[]⟩⟩,⟨⟨#[83,85,66]⟩,⟨#[112,121]⟩,⟨#[79,78]⟩,⟨#[79,70,70]⟩⟩,⟨⟨#[78,69,87,66,65,76,76]⟩,⟨#[]⟩,⟨#[]⟩,⟨#[]⟩⟩,⟨⟨#[68,69,67,76,65,82,69]⟩,⟨#[115]⟩,⟨#[]⟩,⟨#[]⟩⟩,⟨⟨#[70,79,76,76,79,87]⟩,⟨#[115,121]⟩,⟨#[89,69,83]⟩,⟨#[78,79]⟩⟩,⟨⟨#[80,69,78,65,76,84,89]⟩,⟨#[115,114]⟩,⟨#[]⟩,⟨#[]⟩⟩,⟨⟨#[82,69,86,73,69,87]⟩,⟨#[115,121]⟩,⟨#[75,69,80,84]⟩,⟨#[76,79,83,84]⟩⟩,⟨⟨#[82,69,86,73,83,69]⟩,⟨#[114,118]⟩,⟨#[]⟩,⟨#[]⟩⟩,⟨⟨#[83,84,79,80]⟩,⟨#[]⟩,⟨#[]⟩,⟨#[]⟩⟩]
def El (k:Int):ByteArray:=(formsW.getD (k - 1).toNat event_form.zero).fields
def loW (k:Int):Int:=if k==13 then 1 else 0
def hiW (k:Int):Int:=if k==7 then 11 else if k==13 then 99 else 100000
abbrev qKF:Pat:=bZ [U8,U8]
def cr (k c:Int):Bool:=decide (ixW (El k) c≥0) ||(k==5&&c==121)
def aZ (k:Int):Prop:=1≤k∧k≤16
def J4:Den (tyP qKF)→List Prop×Den (tyP aF):=fun x=>([aZ x.1],(cr x.1 x.2.1,()))
abbrev qII:Pat:=bZ [I,I]
def x7:Den (tyP qH)→List Prop×Den (tyP qII):=fun x=>([],(loW x.1,hiW x.1,()))
abbrev LY:Pat:=bZ [.slice (.nm .event_form)]
def DC:Den (tyP (bZ []))→List Prop×Den (tyP LY):=fun _=>([],(formsW,()))
def wt (k:Int):Bool:=k==1||k==12||k==14||k==11||k==13
def re (k:Int):Bool:=k==2||k==3||k==8||k==5||k==6||k==9
def xN (k:Int):Bool:=k==2
def OV (k:Int):Bool:=k==1||k==12||k==14||k==5||k==6||k==9
def Fo (k:Int):Bool:=k==7||k==13||k==15
def xP (k:Int):Bool:=k==15
def rv (k:Int):Bool:=k==4
def Ks (d:Delivery):Bool:=d.Typ==0&&(d.Source==0&&(d.Runs==0&&(d.Short==0&&(d.Boundary==0&&(d.Crossed==false&&(d.How==0&&(d.Victim==0&&(d.Fielder==0&&(d.Second==0&&(d.Sub==false&&d.Sector==0))))))))))
def bB (e:Mir.Event):Int:=
 if !inW e.Kind 1 16 then 3
 else if !wt e.Kind&&e.Side != 0||!re e.Kind&&e.Player != 0||!xN e.Kind&&e.Other != 0||!OV e.Kind&&e.Yes||!Fo e.Kind&&e.Runs != 0||!xP e.Kind&&e.Overs != 0||!rv e.Kind&&!Ks e.Ball then 1
 else if wt e.Kind&&!inW e.Side 1 2||re e.Kind&&!inW e.Player 1 11||xN e.Kind&&!inW e.Other 1 11||Fo e.Kind&&!inW e.Runs (loW e.Kind) (hiW e.Kind)||xP e.Kind&&!inW e.Overs 0 90 then 2
 else if rv e.Kind then b8 e.Ball else 0
abbrev qE:Pat:=bZ [.nm .Event]
def sEv:Den (tyP qE)→List Prop×Den (tyP bA):=fun x=>([],(bB x.1,()))
theorem MI :∀ (l:List UInt8) (c:UInt8),Lib.indexByte l c≤l.length
 | [],c=>by unfold Lib.indexByte;simp
 | b::l,c=>by
  have:=MI l c
  unfold Lib.indexByte
  simp only [List.length_cons]
  split
  ·omega
  ·split <;> omega
theorem ql:CtrOK Tryz.prog KE 108 (ar KE N8 J7):=by
 refine Hp Tryz.func108 (by kernel_rfl) (by kernel_rfl) (fun _=>⟨rfl,rfl⟩) (fun x av w E hw _ hav=>?_) (fun _ _=>rfl)
 obtain ⟨s,c,⟨⟩⟩:=x
 obtain ⟨a,r,rfl,h1,h2⟩:=ob hav
 obtain ⟨b,r2,rfl,h3,h4⟩:=ob h2
 have h5:r2=[]:=by cases r2 with|nil=>rfl|cons=>simp [bo,ae] at h4
 subst h5
 simp only [fi,aa] at h1 h3
 obtain ⟨rfl,hs⟩:=h1
 obtain ⟨rfl,hc⟩:=h3
 refine (Any.strings_IndexByte KQ s c w).mono fun e w' ⟨h6,h7⟩=>⟨_,h6,h7,fun E'=>?_⟩
 refine gR ?_
 have hge:=Lib.indexByte_ge s.data.toList c.toNat.toUInt8
 have hle:=MI s.data.toList c.toNat.toUInt8
 have hl:s.data.toList.length≤aP:=by rw [Array.length_toList];exact hs
 unfold aP at hl
 have e1:IntKind.i64.min = -9223372036854775808:=by decide
 have e2:IntKind.i64.max=9223372036854775807:=by decide
 unfold ok
 rw [e1,e2]
 show _≤ixW s c∧ixW s c≤_
 unfold ixW
 omega
theorem Bx (n:Int) (lo:Int) (hi:Int) :(evPat (ao [] Tryz.f201) (fun _=>none) Tryz.f201 q3 aF (n,lo,hi,())).sat fun z_=>z_ =(sIn (n,lo,hi,())).2:=by
 refine cast (by kernel_rfl) (?_ :(bif decide (n≥lo) then decide (n≤hi) else false,()) =(inW n lo hi,()))
 grind [inW]
def vC:FuncId×Ctr:=(201,af KE q3 aF sIn)
theorem CM:CtrOK Tryz.prog KE 201 (af KE q3 aF sIn):=by
 refine aw (C:=ao [] Tryz.f201) (al (CtrsOK.nil) _) mixed (fn:=Tryz.f201) Tryz.func201 (by kernel_rfl) (by kernel_rfl) (by kernel_rfl) (by kernel_rfl) (by kernel_rfl) (by kernel_rfl) (Λ:=fun _ _=>none) ?_ ?_
 ·exact fun _ _ _ _ _ _ _ _ h=>by cases h
 ·rintro ⟨n,lo,hi,⟨⟩⟩ hw hn
  exact Bx n lo hi
theorem Bj (n:Int) (lo:Int) (hi:Int) :(evPat (ao [] Tryz.f276) (fun _=>none) Tryz.f276 q3 aF (n,lo,hi,())).sat fun z_=>z_ =(sIn (n,lo,hi,())).2:=by
 refine cast (by kernel_rfl) (?_ :(bif decide (n≥lo) then decide (n≤hi) else false,()) =(inW n lo hi,()))
 grind [inW]
def iq:FuncId×Ctr:=(276,af KE q3 aF sIn)
theorem nV:CtrOK Tryz.prog KE 276 (af KE q3 aF sIn):=by
 refine aw (C:=ao [] Tryz.f276) (al (CtrsOK.nil) _) mixed (fn:=Tryz.f276) Tryz.func276 (by kernel_rfl) (by kernel_rfl) (by kernel_rfl) (by kernel_rfl) (by kernel_rfl) (by kernel_rfl) (Λ:=fun _ _=>none) ?_ ?_
 ·exact fun _ _ _ _ _ _ _ _ h=>by cases h
 ·rintro ⟨n,lo,hi,⟨⟩⟩ hw hn
  exact Bj n lo hi
theorem GP (d:Delivery) :(evPat (ao [vC] Tryz.f150) (fun _=>none) Tryz.f150 qD bA (d,())).sat fun z_=>z_ =(JQ (d,())).2:=by
 refine cast (by kernel_rfl) (?_:let r1:Bool:=bif !inW d.8 (0:Int) (2:Int) then true else bif !inW d.9 (0:Int) (11:Int) then true else bif !inW d.10 (0:Int) (11:Int) then true else !inW d.12 (0:Int) (8:Int);let r2:Bool:=bif decide (d.1 <(1:Int)) then true else bif decide (d.1 >(3:Int)) then true else bif decide (d.2 >(3:Int)) then true else decide (d.7 >(10:Int));let r3:Bool:=bif !inW d.3 (0:Int) (7:Int) then true else bif !inW d.4 (0:Int) d.3 then true else bif d.5 !=(0:Int) then bif d.5 !=(4:Int) then bif d.5 !=(6:Int) then true else r1 else r1 else r1;(r2=true→((3:Int),()) =(b8 d,()))∧(r2=false→(r3=true→((2:Int),()) =(b8 d,()))∧(r3=false→((0:Int),()) =(b8 d,()))))
 intro r1 r2 r3
 clear_value (hr1:r1=_) (hr2:r2=_) (hr3:r3=_)
 repeat' (first|refine And.intro ?_ ?_|intro h)
 all_goals grind (splits:=40) [b8]
def jn:FuncId×Ctr:=(150,af KE qD bA JQ)
theorem oU:CtrOK Tryz.prog KE 150 (af KE qD bA JQ):=by
 refine aw (C:=ao [vC] Tryz.f150) (al (.consU CM rfl .nil) _) mixed (fn:=Tryz.f150) Tryz.func150 (by kernel_rfl) (by kernel_rfl) (by kernel_rfl) (by kernel_rfl) (by kernel_rfl) (by kernel_rfl) (Λ:=fun _ _=>none) ?_ ?_
 ·exact fun _ _ _ _ _ _ _ _ h=>by cases h
 ·rintro ⟨d,⟨⟩⟩ hw hn
  exact GP d
theorem GA :(evPat (ao [] Tryz.f302) (fun _=>none) Tryz.f302 (bZ []) LY ()).sat fun z_=>z_ =(DC ()).2:=by
 refine cast (by kernel_rfl) (?_ :([event_form.mk (ByteArray.mk #[84,79,83,83]) (ByteArray.mk #[115,121]) (ByteArray.mk #[66,65,84]) (ByteArray.mk #[70,73,69,76,68]),event_form.mk (ByteArray.mk #[79,80,69,78]) (ByteArray.mk #[112,111]) (ByteArray.mk #[]) (ByteArray.mk #[]),event_form.mk (ByteArray.mk #[66,79,87,76]) (ByteArray.mk #[112]) (ByteArray.mk #[]) (ByteArray.mk #[]),event_form.mk (ByteArray.mk #[66,65,76,76]) (ByteArray.mk #[98]) (ByteArray.mk #[]) (ByteArray.mk #[]),event_form.mk (ByteArray.mk #[69,78,84,69,82]) (ByteArray.mk #[112]) (ByteArray.mk #[]) (ByteArray.mk #[]),event_form.mk (ByteArray.mk #[82,69,84,73,82,69]) (ByteArray.mk #[112,121]) (ByteArray.mk #[72,85,82,84]) (ByteArray.mk #[79,85,84]),event_form.mk (ByteArray.mk #[70,73,69,76,68]) (ByteArray.mk #[114]) (ByteArray.mk #[]) (ByteArray.mk #[]),event_form.mk (ByteArray.mk #[75,69,69,80,69,82]) (ByteArray.mk #[112]) (ByteArray.mk #[]) (ByteArray.mk #[]),event_form.mk (ByteArray.mk #[83,85,66]) (ByteArray.mk #[112,121]) (ByteArray.mk #[79,78]) (ByteArray.mk #[79,70,70]),event_form.mk (ByteArray.mk #[78,69,87,66,65,76,76]) (ByteArray.mk #[]) (ByteArray.mk #[]) (ByteArray.mk #[]),event_form.mk (ByteArray.mk #[68,69,67,76,65,82,69]) (ByteArray.mk #[115]) (ByteArray.mk #[]) (ByteArray.mk #[]),event_form.mk (ByteArray.mk #[70,79,76,76,79,87]) (ByteArray.mk #[115,121]) (ByteArray.mk #[89,69,83]) (ByteArray.mk #[78,79]),event_form.mk (ByteArray.mk #[80,69,78,65,76,84,89]) (ByteArray.mk #[115,114]) (ByteArray.mk #[]) (ByteArray.mk #[]),event_form.mk (ByteArray.mk #[82,69,86,73,69,87]) (ByteArray.mk #[115,121]) (ByteArray.mk #[75,69,80,84]) (ByteArray.mk #[76,79,83,84]),event_form.mk (ByteArray.mk #[82,69,86,73,83,69]) (ByteArray.mk #[114,118]) (ByteArray.mk #[]) (ByteArray.mk #[]),event_form.mk (ByteArray.mk #[83,84,79,80]) (ByteArray.mk #[]) (ByteArray.mk #[]) (ByteArray.mk #[])],()) =(formsW,()))
 rfl
def EF:FuncId×Ctr:=(302,af KE (bZ []) LY DC)
theorem IL:CtrOK Tryz.prog KE 302 (af KE (bZ []) LY DC):=by
 refine aw (C:=ao [] Tryz.f302) (al (CtrsOK.nil) _) mixed (fn:=Tryz.f302) Tryz.func302 (by kernel_rfl) (by kernel_rfl) (by kernel_rfl) (by kernel_rfl) (by kernel_rfl) (by kernel_rfl) (Λ:=fun _ _=>none) ?_ ?_
 ·exact fun _ _ _ _ _ _ _ _ h=>by cases h
 ·rintro ⟨⟩ hw hn
  exact GA
theorem Dd (k:Int) :(evPat (ao [] Tryz.f275) (fun _=>none) Tryz.f275 qH qII (k,())).sat fun z_=>z_ =(x7 (k,())).2:=by
 refine cast (by kernel_rfl) (?_ :((k ==(7:Int))=true→((0:Int),(11:Int),()) =(loW k,hiW k,()))∧((k ==(7:Int))=false→((k ==(13:Int))=true→((1:Int),(99:Int),()) =(loW k,hiW k,()))∧((k ==(13:Int))=false→((0:Int),(100000:Int),()) =(loW k,hiW k,()))))
 grind [loW,hiW]
def jL:FuncId×Ctr:=(275,af KE qH qII x7)
theorem pH:CtrOK Tryz.prog KE 275 (af KE qH qII x7):=by
 refine aw (C:=ao [] Tryz.f275) (al (CtrsOK.nil) _) mixed (fn:=Tryz.f275) Tryz.func275 (by kernel_rfl) (by kernel_rfl) (by kernel_rfl) (by kernel_rfl) (by kernel_rfl) (by kernel_rfl) (Λ:=fun _ _=>none) ?_ ?_
 ·exact fun _ _ _ _ _ _ _ _ h=>by cases h
 ·rintro ⟨k,⟨⟩⟩ hw hn
  exact Dd k
theorem Jy (k:Int) (c:Int) (hk:aZ k) :(evPat (ao [EF,kx] Tryz.f277) (fun _=>none) Tryz.f277 qKF aF (k,c,())).sat fun z_=>z_ =(J4 (k,c,())).2:=by
 refine cast (by kernel_rfl) (?_:let r1:Int:=IntKind.u8.wrap (k - (1:Int));let r2:Int:=ixW (formsW.getD r1.toNat (dflt (Ty.nm Nm.event_form))).2 c;let r3:Bool:=decide (r2≥(0:Int));(((0:Int)≤r1∧r1 <(↑formsW.length:Int))∧(r3=true→True)∧(r3=false→((k ==(5:Int))=true→True)∧((k ==(5:Int))=false→True)))∧(true=true→(bif r3 then true else bif k ==(5:Int) then c ==(121:Int) else false,()) =(cr k c,())))
 intro r1 r2 r3
 clear_value (hr1:r1=_) (hr2:r2=_) (hr3:r3=_)
 obtain ⟨h1,h2⟩:=hk
 have hw:IntKind.u8.wrap (k - 1)=k - 1:=by
  simp only [IntKind.wrap,IntKind.bits,IntKind.signed]
  simp
  omega
 have hl:formsW.length=16:=rfl
 simp only [hw] at *
 have hd:dflt (Ty.nm Nm.event_form)=event_form.zero:=rfl
 refine ⟨⟨⟨by omega,by rw [hl];omega⟩,fun _=>trivial,fun _=>⟨fun _=>trivial,fun _=>trivial⟩⟩,fun _=>?_⟩
 simp only [cr,El,hr1,hr2,hr3,hd]
 grind
def pq:FuncId×Ctr:=(277,af KE qKF aF J4)
theorem xL:CtrOK Tryz.prog KE 277 (af KE qKF aF J4):=by
 refine aw (C:=ao [EF,kx] Tryz.f277) (al (.consU IL rfl (.consU ql rfl .nil)) _) mixed (fn:=Tryz.f277) Tryz.func277 (by kernel_rfl) (by kernel_rfl) (by kernel_rfl) (by kernel_rfl) (by kernel_rfl) (by kernel_rfl) (Λ:=fun _ _=>none) ?_ ?_
 ·exact fun _ _ _ _ _ _ _ _ h=>by cases h
 ·rintro ⟨k,c,⟨⟩⟩ hw hn
  exact Jy k c (hn _ List.mem_cons_self)
theorem NC {k:Int} {p:Int→Prop} (h :∀ n:Fin 16,p ((n.val:Int)+1)) (h1:1≤k) (h2:k≤16):p k:=by
 have:=h ⟨(k - 1).toNat,by omega⟩
 have e :((k - 1).toNat:Int)+1=k:=by omega
 exact (congrArg p e).mp this
theorem Km {k:Int} (h1:1≤k) (h2:k≤16):cr k 115=wt k∧cr k 112=re k∧cr k 111=xN k∧cr k 121=OV k∧cr k 114=Fo k∧cr k 118=xP k∧cr k 98=rv k:=
 NC (p:=fun k=>cr k 115=wt k∧cr k 112=re k∧cr k 111=xN k∧cr k 121=OV k∧cr k 114=Fo k∧cr k 118=xP k∧cr k 98=rv k) (by decide +kernel) h1 h2
theorem Gz (e:Mir.Event) :(evPat (ao [jL,iq,pq,jn] Tryz.f234) (find [(rid (aH Tryz.f234 0),dY 8 (ao [jL,iq,pq,jn] Tryz.f234) (fun _=>none) (aH Tryz.f234 0)),(rid (aH Tryz.f234 1),dY 8 (ao [jL,iq,pq,jn] Tryz.f234) (fun _=>none) (aH Tryz.f234 1))]) Tryz.f234 qE bA (e,())).sat fun z_=>z_ =(sEv (e,())).2:=by
 refine cast (by kernel_rfl) (?_:let r1:Bool:=!inW e.2 (1:Int) (2:Int);let r2:Bool:=!inW e.3 (1:Int) (11:Int);let r3:Bool:=!inW e.4 (1:Int) (11:Int);let r4:Bool:=!inW e.7 (0:Int) (90:Int);let r5:Bool:=bif !!e.5 then !cr e.1 (121:Int) else false;let r6:Int:=IntKind.i64.wrap ((0:Int) +(1:Int));let r7:Bool:=bif !inW e.6 (loW e.1) (hiW e.1) then cr e.1 (114:Int) else false;let r8:Bool:=bif !e.2 ==(0:Int) then !cr e.1 (115:Int) else false;let r9:Bool:=bif !e.3 ==(0:Int) then !cr e.1 (112:Int) else false;let r10:Bool:=bif !e.4 ==(0:Int) then !cr e.1 (111:Int) else false;let r11:Bool:=bif !e.6 ==(0:Int) then !cr e.1 (114:Int) else false;let r12:Bool:=bif !e.7 ==(0:Int) then !cr e.1 (118:Int) else false;let r13:Bool:=bif r1 then cr e.1 (115:Int) else false;let r14:Bool:=bif r2 then cr e.1 (112:Int) else false;let r15:Bool:=bif r3 then cr e.1 (111:Int) else false;let r16:Bool:=bif r4 then cr e.1 (118:Int) else false;let r17:Int:=IntKind.i64.wrap (r6 +(1:Int));let r18:Bool:=bif decide (e.1 <(1:Int)) then true else decide (e.1 >(16:Int));let r19:Int:=IntKind.i64.wrap (r17 +(1:Int));let r20:Int:=IntKind.i64.wrap (r19 +(1:Int));let r21:Int:=IntKind.i64.wrap (r20 +(1:Int));let r22:Int:=IntKind.i64.wrap (r21 +(1:Int));let r23:Bool:=e.8.1 ==(0:Int)&&(e.8.2 ==(0:Int)&&(e.8.3 ==(0:Int)&&(e.8.4 ==(0:Int)&&(e.8.5 ==(0:Int)&&(e.8.6==false&&(e.8.7 ==(0:Int)&&(e.8.8 ==(0:Int)&&(e.8.9 ==(0:Int)&&(e.8.10 ==(0:Int)&&(e.8.11==false&&(e.8.12 ==(0:Int)&&true)))))))))));let r24:Bool:=!r23;let r25:Bool:=bif r24 then !cr e.1 (98:Int) else false;let r26:Int:=(↑[((115:Int),e.2 ==(0:Int),inW e.2 (1:Int) (2:Int),()),((112:Int),e.3 ==(0:Int),inW e.3 (1:Int) (11:Int),()),((111:Int),e.4 ==(0:Int),inW e.4 (1:Int) (11:Int),()),((121:Int),!e.5,true,()),((114:Int),e.6 ==(0:Int),inW e.6 (loW e.1) (hiW e.1),()),((118:Int),e.7 ==(0:Int),inW e.7 (0:Int) (90:Int),()),((98:Int),r23,true,())].length:Int);(r18=true→((3:Int),()) =(bB e,()))∧(r18=false→True∧((0:Int)≤(0:Int)∧(0:Int)<r26)∧(((!e.2 ==(0:Int))=true→((1:Int)≤e.1∧e.1≤(16:Int))∧True)∧((!e.2 ==(0:Int))=false→True))∧(true=true→(r8=true→((1:Int),()) =(bB e,()))∧(r8=false→((0:Int)≤r6∧r6<r26)∧(((!e.3 ==(0:Int))=true→((1:Int)≤e.1∧e.1≤(16:Int))∧True)∧((!e.3 ==(0:Int))=false→True))∧(true=true→(r9=true→((1:Int),()) =(bB e,()))∧(r9=false→((0:Int)≤r17∧r17<r26)∧(((!e.4 ==(0:Int))=true→((1:Int)≤e.1∧e.1≤(16:Int))∧True)∧((!e.4 ==(0:Int))=false→True))∧(true=true→(r10=true→((1:Int),()) =(bB e,()))∧(r10=false→((0:Int)≤r19∧r19<r26)∧(((!!e.5)=true→((1:Int)≤e.1∧e.1≤(16:Int))∧True)∧((!!e.5)=false→True))∧(true=true→(r5=true→((1:Int),()) =(bB e,()))∧(r5=false→((0:Int)≤r20∧r20<r26)∧(((!e.6 ==(0:Int))=true→((1:Int)≤e.1∧e.1≤(16:Int))∧True)∧((!e.6 ==(0:Int))=false→True))∧(true=true→(r11=true→((1:Int),()) =(bB e,()))∧(r11=false→((0:Int)≤r21∧r21<r26)∧(((!e.7 ==(0:Int))=true→((1:Int)≤e.1∧e.1≤(16:Int))∧True)∧((!e.7 ==(0:Int))=false→True))∧(true=true→(r12=true→((1:Int),()) =(bB e,()))∧(r12=false→((0:Int)≤r22∧r22<r26)∧((r24=true→((1:Int)≤e.1∧e.1≤(16:Int))∧True)∧(r24=false→True))∧(true=true→(r25=true→((1:Int),()) =(bB e,()))∧(r25=false→True∧((0:Int)≤(0:Int)∧(0:Int)<r26)∧((r1=true→((1:Int)≤e.1∧e.1≤(16:Int))∧True)∧(r1=false→True))∧(true=true→(r13=true→((2:Int),()) =(bB e,()))∧(r13=false→((0:Int)≤r6∧r6<r26)∧((r2=true→((1:Int)≤e.1∧e.1≤(16:Int))∧True)∧(r2=false→True))∧(true=true→(r14=true→((2:Int),()) =(bB e,()))∧(r14=false→((0:Int)≤r17∧r17<r26)∧((r3=true→((1:Int)≤e.1∧e.1≤(16:Int))∧True)∧(r3=false→True))∧(true=true→(r15=true→((2:Int),()) =(bB e,()))∧(r15=false→((0:Int)≤r19∧r19<r26)∧(((!true)=true→((1:Int)≤e.1∧e.1≤(16:Int))∧True)∧((!true)=false→True))∧(true=true→((bif !true then cr e.1 (121:Int) else false)=true→((2:Int),()) =(bB e,()))∧((bif !true then cr e.1 (121:Int) else false)=false→((0:Int)≤r20∧r20<r26)∧(((!inW e.6 (loW e.1) (hiW e.1))=true→((1:Int)≤e.1∧e.1≤(16:Int))∧True)∧((!inW e.6 (loW e.1) (hiW e.1))=false→True))∧(true=true→(r7=true→((2:Int),()) =(bB e,()))∧(r7=false→((0:Int)≤r21∧r21<r26)∧((r4=true→((1:Int)≤e.1∧e.1≤(16:Int))∧True)∧(r4=false→True))∧(true=true→(r16=true→((2:Int),()) =(bB e,()))∧(r16=false→((0:Int)≤r22∧r22<r26)∧(((!true)=true→((1:Int)≤e.1∧e.1≤(16:Int))∧True)∧((!true)=false→True))∧(true=true→((bif !true then cr e.1 (98:Int) else false)=true→((2:Int),()) =(bB e,()))∧((bif !true then cr e.1 (98:Int) else false)=false→((e.1 ==(4:Int))=true→(b8 e.8,()) =(bB e,()))∧((e.1 ==(4:Int))=false→((0:Int),()) =(bB e,()))))))))))))))))))))))))))))))))
 intro r1 r2 r3 r4 r5 r6 r7 r8 r9 r10 r11 r12 r13 r14 r15 r16 r17 r18 r19 r20 r21 r22 r23 r24 r25 r26
 clear_value (hr1:r1=_) (hr2:r2=_) (hr3:r3=_) (hr4:r4=_) (hr5:r5=_) (hr6:r6=_) (hr7:r7=_) (hr8:r8=_) (hr9:r9=_) (hr10:r10=_) (hr11:r11=_) (hr12:r12=_) (hr13:r13=_) (hr14:r14=_) (hr15:r15=_) (hr16:r16=_) (hr17:r17=_) (hr18:r18=_) (hr19:r19=_) (hr20:r20=_) (hr21:r21=_) (hr22:r22=_) (hr23:r23=_) (hr24:r24=_) (hr25:r25=_) (hr26:r26=_)
 have h6:r6=1:=hr6
 have h17:r17=2:=by rw [hr17,h6];rfl
 have h19:r19=3:=by rw [hr19,h17];rfl
 have h20:r20=4:=by rw [hr20,h19];rfl
 have h21:r21=5:=by rw [hr21,h20];rfl
 have h22:r22=6:=by rw [hr22,h21];rfl
 have h26:r26=7:=hr26
 clear hr6 hr17 hr19 hr20 hr21 hr22 hr26
 have hz:r23=Ks e.8:=by rw [hr23];simp only [Ks,Bool.and_true]
 refine ⟨fun h=>?_,fun h=>?_⟩
 ·have:inW e.1 1 16=false:=by grind [inW]
  simp [bB,this]
 ·have hk:1≤e.1∧e.1≤16:=by grind
  obtain ⟨u1,u2,u3,u4,u5,u6,u7⟩:=Km hk.1 hk.2
  simp only [u1,u2,u3,u4,u5,u6,u7] at hr5 hr7 hr8 hr9 hr10 hr11 hr12 hr13 hr14 hr15 hr16 hr25 ⊢
  have hi:inW e.1 1 16=true:=by grind [inW]
  have e0:bB e=if r8||r9||r10||r5||r11||r12||r25 then 1 else if r13||r14||r15||r7||r16 then 2 else if rv e.1 then b8 e.8 else 0:=by
   have t1 :∀ a b:Bool,(bif !a then !b else false) =(!b&&!a):=by decide
   have t2 :∀ a b:Bool,(bif a then b else false) =(b&&a):=by decide
   rw [t1] at hr8 hr9 hr10 hr11 hr12 hr5
   rw [hr24,t1,hz] at hr25
   rw [t2] at hr13 hr14 hr15 hr7 hr16
   rw [hr1] at hr13
   rw [hr2] at hr14
   rw [hr3] at hr15
   rw [hr4] at hr16
   rw [Bool.not_not] at hr5
   rw [hr8,hr9,hr10,hr5,hr11,hr12,hr25,hr13,hr14,hr15,hr7,hr16]
   unfold bB
   rw [hi]
   rfl
  clear hr1 hr2 hr3 hr4 hr5 hr7 hr8 hr9 hr10 hr11 hr12 hr13 hr14 hr15 hr16 hr18 hr23 hr24 hr25
  rw [e0]
  simp only [h6,h17,h19,h20,h21,h22,h26]
  clear u1 u2 u3 u4 u5 u6 u7 e0 hz
  repeat' (first|refine And.intro ?_ ?_|intro _)
  all_goals first|omega |(simp_all [rv];done)
def qZ:FuncId×Ctr:=(234,af KE qE bA sEv)
theorem AE:CtrOK Tryz.prog KE 234 (af KE qE bA sEv):=by
 refine aw (C:=ao [jL,iq,pq,jn] Tryz.f234) (al (.consU pH rfl (.consU nV rfl (.consU xL rfl (.consU oU rfl .nil)))) _) mixed (fn:=Tryz.f234) Tryz.func234 (by kernel_rfl) (by kernel_rfl) (by kernel_rfl) (by kernel_rfl) (by kernel_rfl) (by kernel_rfl) (Λ:=fun x=>find [(rid (aH Tryz.f234 0),dY 8 (ao [jL,iq,pq,jn] Tryz.f234) (fun _=>none) (aH Tryz.f234 0)),(rid (aH Tryz.f234 1),dY 8 (ao [jL,iq,pq,jn] Tryz.f234) (fun _=>none) (aH Tryz.f234 1))]) ?_ ?_
 ·rintro ⟨e,⟨⟩⟩ hw hn
  exact LoopsOKp.at (by kernel_rfl) (.cons (by kernel_rfl) (mP 8 (al (.consU pH rfl (.consU nV rfl (.consU xL rfl (.consU oU rfl .nil)))) _) mixed (Λ:=fun _=>none) (b:=aH Tryz.f234 0) rfl (fun _ _ _ h=>by cases h)) (.cons (by kernel_rfl) (mP 8 (al (.consU pH rfl (.consU nV rfl (.consU xL rfl (.consU oU rfl .nil)))) _) mixed (Λ:=fun _=>none) (b:=aH Tryz.f234 1) rfl (fun _ _ _ h=>by cases h)) .nil))
 ·rintro ⟨e,⟨⟩⟩ hw hn
  exact Gz e
end Go.Proofs.YtffdpnmioidloaaGreatDoor
namespace Go.Proofs.YtffdpnmioidloaaGreatDoor
open Go Go.Mir
attribute [local irreducible] Go.Mir.DT.sat Go.Mir.evPat
end Go.Proofs.YtffdpnmioidloaaGreatDoor
namespace Go.Proofs.YtffdpnmioidloaaGreatDoor
open Go Go.Mir
attribute [local irreducible] Go.Mir.DT.sat Go.Mir.evPat Go.Mir.RT.sat Go.Mir.evFn
def aA (r:Rules) (x:Innings) (e:Mir.Event):Innings:=
 if e.Kind==2 then jq x e.Player e.Other else if e.Kind==3 then bN r x e.Player else if e.Kind==4 then fK r x e.Ball
 else if e.Kind==5 then (if e.Yes then mg x e.Player else jy x e.Player) else if e.Kind==6 then dz x e.Player e.Yes
 else if e.Kind==7 then au x e.Runs else if e.Kind==8 then ai x e.Player else if e.Kind==9 then ax x e.Player e.Yes
 else if e.Kind==10 then bu r x else if e.Kind==11 then m3 r x e else if e.Kind==13 then qI x e else if e.Kind==14 then l9 r x e.Side e.Yes else oX r x e.Runs e.Overs
def ca (r:Rules) (x:Innings) (e:Mir.Event):Int:=
 if e.Kind==2 then lX x e.Player e.Other else if e.Kind==3 then c9 r x e.Player else if e.Kind==4 then iU r x e.Ball
 else if e.Kind==5 then bV x e.Player else if e.Kind==6 then cz x e.Player e.Yes
 else if e.Kind==7 then fx x e.Runs else if e.Kind==8 then dw x e.Player else if e.Kind==9 then gQ x e.Player e.Yes
 else if e.Kind==10 then xI r x else if e.Kind==11 then p9 r x e else if e.Kind==13 then pK e else if e.Kind==14 then l8 r x e.Side else tG r x e.Runs e.Overs
def Ft (e:Mir.Event):Prop:=e.Kind=14→jE e.Side
def JX:Den (tyP jU)→List Prop×Den (tyP q2L):=fun x=>([fE x.2.1,Ft x.2.2.1],(aA x.1 x.2.1 x.2.2.1,ca x.1 x.2.1 x.2.2.1,()))
def He (k:Int):Bool:=inW k 2 15&&k != 12
def cC (r:Rules) (x:Innings) (e:Mir.Event):Int:=
 if !bP r x||bB e != 0 then 1 else if x.Ending != 0 then 26 else if !He e.Kind||!eM x&&e.Kind != 2 then 1 else ca r x e
def nK (y:Innings) (e:Mir.Event):Innings:={ y with Fresh:=e.Kind==4 }
def od (r:Rules) (y:Innings):Innings:=if y.Ending==0 then { y with Ending:=wR r y } else y
def cD (r:Rules) (x:Innings) (e:Mir.Event):Innings:=if cC r x e != 0 then x else od r (nK (aA r x e) e)
def JZ:Den (tyP jU)→List Prop×Den (tyP q2L):=fun x=>([ah x.2.1],(cD x.1 x.2.1 x.2.2.1,cC x.1 x.2.1 x.2.2.1,()))
theorem ml {r:Rules} {x:Innings} (h:bP r x=true):fE x:=by
 unfold bP at h
 simp only [Bool.and_eq_true,beq_iff_eq] at h
 obtain ⟨hc,_,hl,_,_,_,_,h1,h2,_,_⟩:=h
 obtain ⟨⟨_,hs⟩,_⟩:=fb hc
 simp only [Aw,Bool.and_eq_true,beq_iff_eq] at hl
 obtain ⟨l1,l2,l3⟩:=hl
 have k1:=qa h1
 have k2:=qa h2
 have e1:x.Bowlers.length≤999999:=by rcases k1 with k|k;omega;rw [k];simp
 have e2:x.Before.length≤999999:=by rcases k2 with k|k;omega;rw [k];simp
 exact ⟨by omega,e1,e2,by omega,by omega⟩
theorem KI {e:Mir.Event} (h:bB e=0):inW e.Kind 1 16=true:=by
 cases hk:inW e.Kind 1 16 with
 | true=>rfl
 | false=>unfold bB at h;simp [hk] at h
theorem KJ {e:Mir.Event} (h:bB e=0):Ft e:=fun hk=>by
 cases hs:inW e.Side 1 2 with
 | true=>simp only [inW,Bool.and_eq_true,decide_eq_true_eq] at hs;unfold jE;omega
 | false=>
  have hu:wt e.Kind=true:=by rw [hk];rfl
  unfold bB at h
  simp only [hu,hs] at h
  exfalso
  revert h
  repeat' split
  all_goals first |(intro h;exact absurd h (by decide))|simp_all
theorem aD {c:Prop} [Decidable c] {a b:Innings} (ha:ah a) (hb:ah b):ah (if c then a else b):=by
 by_cases h:c
 ·rw [if_pos h];exact ha
 ·rw [if_neg h];exact hb
theorem ir {x:Innings} (h:ah x) (p s:Int):ah (cn x p s):=by
 obtain ⟨h1,h2,h3,h4,h5⟩:=h
 simp [ah,cn,h1,h2,h3,h4,h5]
theorem tU {x:Innings} (h:ah x) (p:Int):ah (ek x p):=by
 have:ah (if aI x p then cn x p 2 else x):=aD (ir h _ _) h
 exact this
theorem oY {x:Innings} (h:ah x) (b:Bool):ah (cy x b):=aD (c:=b=true) (a:={ x with Striker:=0 }) (b:={ x with Other:=0 }) h h
theorem GZ {x:Innings} (h:ah x) (p:Int) (b:Bool):ah (pM x p b):=by
 obtain ⟨h1,h2,h3,h4,h5⟩:=h
 simp [ah,pM,h1,h2,h3,h4,h5]
theorem tg {r:Rules} {x:Innings} (e:Mir.Event) (hj:fE x):ah (aA r x e):=by
 have h:ah x:=me hj
 have hf :∀ y,ah y→ah (m5 r y e.Ball):=fun y hy=>by
  unfold m5
  exact aD hy (aD hy hy)
 have hp:ah (fK r x e.Ball):=by
  unfold fK
  refine aD h (hf _ ?_)
  have hb:ah (an r (zn (bC x e.Ball) (aB r e.Ball)) (aB r e.Ball).Counts):=ry _ (wc e.Ball hj)
  unfold eb MS
  exact aD hb hb
 have k2:ah (jq x e.Player e.Other):=by
  unfold jq
  exact aD h (aD h (aD h (ir (ir h _ _) _ _)))
 have k3:ah (bN r x e.Player):=by unfold bN;exact aD h h
 have k5:ah (mg x e.Player):=by unfold mg;exact aD h (tU h _)
 have k5':ah (jy x e.Player):=by unfold jy;exact aD h (aD (ir h _ _) (ir h _ _))
 have k6:ah (dz x e.Player e.Yes):=by unfold dz;exact aD h (aD (ir (oY h _) _ _) (tU (oY h _) _))
 have k7:ah (au x e.Runs):=by unfold au;exact aD h h
 have k8:ah (ai x e.Player):=by unfold ai;exact aD h (aD h (aD h h))
 have k9:ah (ax x e.Player e.Yes):=by unfold ax;exact aD h (aD h (GZ h _ _))
 have k10:ah (bu r x):=by unfold bu;exact aD h h
 have k11:ah (m3 r x e):=by unfold m3;exact aD h h
 have k13:ah (qI x e):=by unfold qI;exact aD h (aD h (aD h h))
 have k14:ah (l9 r x e.Side e.Yes):=by unfold l9;exact aD h (aD h h)
 have kT:ah (JJ x e.Runs):=by unfold JJ;exact aD h h
 have k15:ah (oX r x e.Runs e.Overs):=by unfold oX Ml;exact aD h (aD kT kT)
 unfold aA
 exact aD k2 (aD k3 (aD hp (aD (aD k5 k5') (aD k6 (aD k7 (aD k8 (aD k9 (aD k10 (aD k11 (aD k13 (aD k14 k15)))))))))))
theorem oZ {r:Rules} {x:Innings} {e:Mir.Event} (h :(cC r x e != 0)=true):cD r x e=x:=by simp only [cD,h,if_true]
theorem Bq (r:Rules) (x:Innings) (e:Mir.Event) (hs:fE x) (h2:Ft e) :(evPat (ao [HY,k50,Ia,vp,ED,Ag,k67,k66,k46,k55,vu,ML,Ak,Al] Tryz.f321) (fun _=>none) Tryz.f321 jU q2L (r,x,e,())).sat fun z_=>z_ =(JX (r,x,e,())).2:=by
 refine cast (by kernel_rfl) (?_ :((e.1 ==(2:Int))=true→ah x∧(jq x e.3 e.4,lX x e.3 e.4,()) =(aA r x e,ca r x e,()))∧((e.1 ==(2:Int))=false→((e.1 ==(3:Int))=true→ah x∧(bN r x e.3,c9 r x e.3,()) =(aA r x e,ca r x e,()))∧((e.1 ==(3:Int))=false→((e.1 ==(4:Int))=true→fE x∧(fK r x e.8,iU r x e.8,()) =(aA r x e,ca r x e,()))∧((e.1 ==(4:Int))=false→((e.1 ==(5:Int))=true→(e.5=true→ah x∧(mg x e.3,bV x e.3,()) =(aA r x e,ca r x e,()))∧(e.5=false→ah x∧(jy x e.3,bV x e.3,()) =(aA r x e,ca r x e,())))∧((e.1 ==(5:Int))=false→((e.1 ==(6:Int))=true→ah x∧(dz x e.3 e.5,cz x e.3 e.5,()) =(aA r x e,ca r x e,()))∧((e.1 ==(6:Int))=false→((e.1 ==(7:Int))=true→ah x∧(au x e.6,fx x e.6,()) =(aA r x e,ca r x e,()))∧((e.1 ==(7:Int))=false→((e.1 ==(8:Int))=true→ah x∧(ai x e.3,dw x e.3,()) =(aA r x e,ca r x e,()))∧((e.1 ==(8:Int))=false→((e.1 ==(9:Int))=true→ah x∧(ax x e.3 e.5,gQ x e.3 e.5,()) =(aA r x e,ca r x e,()))∧((e.1 ==(9:Int))=false→((e.1 ==(10:Int))=true→ah x∧(bu r x,xI r x,()) =(aA r x e,ca r x e,()))∧((e.1 ==(10:Int))=false→((e.1 ==(11:Int))=true→ah x∧(m3 r x e,p9 r x e,()) =(aA r x e,ca r x e,()))∧((e.1 ==(11:Int))=false→((e.1 ==(13:Int))=true→ah x∧(qI x e,pK e,()) =(aA r x e,ca r x e,()))∧((e.1 ==(13:Int))=false→((e.1 ==(14:Int))=true→ah x∧jE e.2∧(l9 r x e.2 e.5,l8 r x e.2,()) =(aA r x e,ca r x e,()))∧((e.1 ==(14:Int))=false→ah x∧(oX r x e.6 e.7,tG r x e.6 e.7,()) =(aA r x e,ca r x e,()))))))))))))))
 have hi:=me hs
 refine ⟨fun a2=>?_,fun n2=>⟨fun a3=>?_,fun n3=>⟨fun a4=>?_,fun n4=>⟨fun a5=>?_,fun n5=>⟨fun a6=>?_,fun n6=>⟨fun a7=>?_,fun n7=>⟨fun a8=>?_,fun n8=>⟨fun a9=>?_,fun n9=>⟨fun a10=>?_,fun n10=>⟨fun a11=>?_,fun n11=>⟨fun a13=>?_,fun n13=>⟨fun a14=>?_,fun n14=>?_⟩⟩⟩⟩⟩⟩⟩⟩⟩⟩⟩⟩
 ·exact ⟨hi,by simp only [aA,ca,a2];rfl⟩
 ·exact ⟨hi,by simp only [aA,ca,n2,a3];rfl⟩
 ·exact ⟨hs,by simp only [aA,ca,n2,n3,a4];rfl⟩
 ·exact ⟨fun y=>⟨hi,by simp only [aA,ca,n2,n3,n4,a5,y];rfl⟩,fun y=>⟨hi,by simp only [aA,ca,n2,n3,n4,a5,y];rfl⟩⟩
 ·exact ⟨hi,by simp only [aA,ca,n2,n3,n4,n5,a6];rfl⟩
 ·exact ⟨hi,by simp only [aA,ca,n2,n3,n4,n5,n6,a7];rfl⟩
 ·exact ⟨hi,by simp only [aA,ca,n2,n3,n4,n5,n6,n7,a8];rfl⟩
 ·exact ⟨hi,by simp only [aA,ca,n2,n3,n4,n5,n6,n7,n8,a9];rfl⟩
 ·exact ⟨hi,by simp only [aA,ca,n2,n3,n4,n5,n6,n7,n8,n9,a10];rfl⟩
 ·exact ⟨hi,by simp only [aA,ca,n2,n3,n4,n5,n6,n7,n8,n9,n10,a11];rfl⟩
 ·exact ⟨hi,by simp only [aA,ca,n2,n3,n4,n5,n6,n7,n8,n9,n10,n11,a13];rfl⟩
 ·exact ⟨hi,h2 (eq_of_beq a14),by simp only [aA,ca,n2,n3,n4,n5,n6,n7,n8,n9,n10,n11,n13,a14];rfl⟩
 ·exact ⟨hi,by simp only [aA,ca,n2,n3,n4,n5,n6,n7,n8,n9,n10,n11,n13,n14];rfl⟩
def vx:FuncId×Ctr:=(321,af KE jU q2L JX)
theorem CG:CtrOK Tryz.prog KE 321 (af KE jU q2L JX):=by
 refine aw (C:=ao [HY,k50,Ia,vp,ED,Ag,k67,k66,k46,k55,vu,ML,Ak,Al] Tryz.f321) (al (.consU Ll rfl (.consU Qv rfl (.consU Ln rfl (.consU CB rfl (.consU IJ rfl (.consU Ga rfl (.consU QC rfl (.consU QB rfl (.consU Qu rfl (.consU Qx rfl (.consU CE rfl (.consU N4 rfl (.consU Gc rfl (.consU Gd rfl .nil)))))))))))))) _) mixed (fn:=Tryz.f321) Tryz.func321 (by kernel_rfl) (by kernel_rfl) (by kernel_rfl) (by kernel_rfl) (by kernel_rfl) (by kernel_rfl) (Λ:=fun _ _=>none) ?_ ?_
 ·exact fun _ _ _ _ _ _ _ _ h=>by cases h
 ·rintro ⟨r,x,e,⟨⟩⟩ hw hn
  exact Bq r x e (hn _ List.mem_cons_self) (hn _ (List.mem_cons_of_mem _ List.mem_cons_self))
theorem JC (r:Rules) (x:Innings) (e:Mir.Event) (hs:ah x) :(evPat (ao [dx,oB,qZ,EJ,vx,Aj] Tryz.f308) (fun _=>none) Tryz.f308 jU q2L (r,x,e,())).sat fun z_=>z_ =(JZ (r,x,e,())).2:=by
 refine cast (by kernel_rfl) (?_:let r1:Bool:=ca r x e !=(0:Int);let r2:Bool:=(aA r x e).23 ==(0:Int);let r3:Bool:=bif !bP r x then true else bB e !=(0:Int);let r4:Bool:=bif e.1 ==(1:Int) then true else bif e.1 ==(12:Int) then true else bif e.1 ==(16:Int) then true else bif !eM x then e.1 !=(2:Int) else false;let r5:Innings:=Innings.mk (aA r x e).1 (aA r x e).2 (aA r x e).3 (aA r x e).4 (aA r x e).5 (aA r x e).6 (aA r x e).7 (aA r x e).8 (aA r x e).9 (aA r x e).10 (aA r x e).11 (aA r x e).12 (aA r x e).13 (aA r x e).14 (e.1 ==(4:Int)) (aA r x e).16 (aA r x e).17 (aA r x e).18 (aA r x e).19 (aA r x e).20 (aA r x e).21 (aA r x e).22 (aA r x e).23;(ah x∧((!bP r x)=true→True)∧((!bP r x)=false→True))∧(true=true→(r3=true→ah x∧(x,(1:Int),()) =(cD r x e,cC r x e,()))∧(r3=false→((x.23 !=(0:Int))=true→ah x∧(x,(26:Int),()) =(cD r x e,cC r x e,()))∧((x.23 !=(0:Int))=false→(r4=true→ah x∧(x,(1:Int),()) =(cD r x e,cC r x e,()))∧(r4=false→fE x∧Ft e∧(r1=true→ah x∧(x,ca r x e,()) =(cD r x e,cC r x e,()))∧(r1=false→((r2=true→ah r5∧True)∧(r2=false→True))∧(true=true→(Innings.mk (bif r2 then (aA r x e).1 else (aA r x e).1) (bif r2 then (aA r x e).2 else (aA r x e).2) (bif r2 then (aA r x e).3 else (aA r x e).3) (bif r2 then (aA r x e).4 else (aA r x e).4) (bif r2 then (aA r x e).5 else (aA r x e).5) (Extras.mk (bif r2 then (aA r x e).6.1 else (aA r x e).6.1) (bif r2 then (aA r x e).6.2 else (aA r x e).6.2) (bif r2 then (aA r x e).6.3 else (aA r x e).6.3) (bif r2 then (aA r x e).6.4 else (aA r x e).6.4) (bif r2 then (aA r x e).6.5 else (aA r x e).6.5)) (bif r2 then (aA r x e).7 else (aA r x e).7) (bif r2 then (aA r x e).8 else (aA r x e).8) (bif r2 then (aA r x e).9 else (aA r x e).9) (bif r2 then (aA r x e).10 else (aA r x e).10) (bif r2 then (aA r x e).11 else (aA r x e).11) (bif r2 then (aA r x e).12 else (aA r x e).12) (bif r2 then (aA r x e).13 else (aA r x e).13) (bif r2 then (aA r x e).14 else (aA r x e).14) (bif r2 then e.1 ==(4:Int) else e.1 ==(4:Int)) (bif r2 then (aA r x e).16 else (aA r x e).16) (bif r2 then (aA r x e).17 else (aA r x e).17) (bif r2 then (aA r x e).18 else (aA r x e).18) (bif r2 then (aA r x e).19 else (aA r x e).19) (bif r2 then (aA r x e).20 else (aA r x e).20) (bif r2 then (aA r x e).21 else (aA r x e).21) (bif r2 then (aA r x e).22.1 else (aA r x e).22.1,bif r2 then (aA r x e).22.2.1 else (aA r x e).22.2.1,()) (bif r2 then wR r r5 else (aA r x e).23),(0:Int),()) =(cD r x e,cC r x e,()))))))))
 intro r1 r2 r3 r4 r5
 clear_value (hr1:r1=_) (hr2:r2=_) (hr3:r3=_) (hr4:r4=_) (hr5:r5=_)
 simp only [Bool.cond_self] at *
 have e3:r3 =(!bP r x||bB e != 0):=by rw [hr3];cases bP r x <;> rfl
 have hv:r3=false→bP r x=true∧bB e=0:=fun h=>by
  rw [e3] at h
  simpa using h
 have e4:r3=false→r4 =(!He e.Kind||!eM x&&e.Kind != 2):=fun h=>by
  have hk:=KI (hv h).2
  simp only [inW,Bool.and_eq_true,decide_eq_true_eq] at hk
  have :(e.Kind==1 ||(e.Kind==12||e.Kind==16))=!He e.Kind:=by
   unfold He inW
   by_cases k1:e.Kind=1
   ·rw [k1];rfl
   ·by_cases k2:e.Kind=12
    ·rw [k2];rfl
    ·by_cases k3:e.Kind=16
     ·rw [k3];rfl
     ·have q1:e.Kind≥2:=by omega
      have q2:e.Kind≤15:=by omega
      have b1 :(e.Kind==1)=false:=by simpa using k1
      have b2 :(e.Kind==12)=false:=by simpa using k2
      have b3 :(e.Kind==16)=false:=by simpa using k3
      simp [b1,b2,b3,q1,q2,bne]
  rw [hr4,←this]
  cases e.Kind==1 <;> cases e.Kind==12 <;> cases e.Kind==16 <;> cases eM x <;> rfl
 have h5:r5=nK (aA r x e) e:=hr5
 clear hr3 hr4 hr5
 refine ⟨⟨hs,fun _=>trivial,fun _=>trivial⟩,fun _=>⟨fun a=>⟨hs,?_⟩,fun a=>⟨fun b=>⟨hs,?_⟩,fun b=>⟨fun c=>⟨hs,?_⟩,fun c=>⟨ml (hv a).1,KJ (hv a).2,fun d=>⟨hs,?_⟩,fun d=>⟨⟨fun q=>⟨?_,trivial⟩,fun _=>trivial⟩,fun _=>?_⟩⟩⟩⟩⟩⟩
 ·have hL:cC r x e=1:=by simp only [cC,←e3,a];rfl
  rw [oZ (by rw [hL];rfl),hL]
 ·have hL:cC r x e=26:=by simp only [cC,←e3,a,b];rfl
  rw [oZ (by rw [hL];rfl),hL]
 ·have hL:cC r x e=1:=by simp only [cC,←e3,←e4 a,a,b,c];rfl
  rw [oZ (by rw [hL];rfl),hL]
 ·have hL:cC r x e=ca r x e:=by simp only [cC,←e3,←e4 a,a,b,c];rfl
  rw [oZ (by rw [hL,←hr1];exact d),hL]
 ·rw [h5];exact tg e (ml (hv a).1)
 ·have hL:cC r x e=0:=by
   have:cC r x e=ca r x e:=by simp only [cC,←e3,←e4 a,a,b,c];rfl
   rw [this]
   rw [hr1] at d
   simpa using d
  have hp:cD r x e=od r r5:=by simp only [cD,hL,h5];rfl
  rw [hp,hL]
  have hE:r5.Ending =(aA r x e).Ending:=by rw [h5];rfl
  unfold od
  rw [hE,←hr2]
  cases r2 with
  | true=>rw [if_pos rfl,h5];rfl
  | false=>rw [if_neg (by decide),h5];rfl
def xt:FuncId×Ctr:=(308,af KE jU q2L JZ)
theorem E6:CtrOK Tryz.prog KE 308 (af KE jU q2L JZ):=by
 refine aw (C:=ao [dx,oB,qZ,EJ,vx,Aj] Tryz.f308) (al (.consU gC rfl (.consU sX rfl (.consU AE rfl (.consU IQ rfl (.consU CG rfl (.consU Gb rfl .nil)))))) _) mixed (fn:=Tryz.f308) Tryz.func308 (by kernel_rfl) (by kernel_rfl) (by kernel_rfl) (by kernel_rfl) (by kernel_rfl) (by kernel_rfl) (Λ:=fun _ _=>none) ?_ ?_
 ·exact fun _ _ _ _ _ _ _ _ h=>by cases h
 ·rintro ⟨r,x,e,⟨⟩⟩ hw hn
  exact JC r x e (hn _ List.mem_cons_self)
end Go.Proofs.YtffdpnmioidloaaGreatDoor
namespace Go.Proofs.YtffdpnmioidloaaGreatDoor
open Go Go.Mir
attribute [local irreducible] Go.Mir.DT.sat Go.Mir.evPat Go.Mir.RT.sat Go.Mir.evFn
abbrev xV:Pat:=bZ [.nm .Rules,I,I,I]
def B0 (s t p:Int):Bool:=!inW s 1 2 ||(!inW t 0 1000000||!inW p 0 1000000)
def mR (r:Rules) (s t p:Int):Int:=if aC r != 0 then aC r else if B0 s t p then 2 else 0
def zl {α:Type} (n:Int) (v:α):List α:=List.replicate n.toNat v
def Kw (r:Rules) (s t p:Int):Innings:={ Innings.zero with Side:=s,Target:=t,Overs:=r.Overs,Runs:=p,Extras:={ Extras.zero with Penalties:=p },Batters:=zl r.Side 0,Bowled:=zl r.Side 0,Subs:=zl r.Side false }
def mS (r:Rules) (s t p:Int):Innings:=if mR r s t p != 0 then Innings.zero else Kw r s t p
def Dv:Den (tyP xV)→List Prop×Den (tyP q2L):=fun x=>([],(mS x.1 x.2.1 x.2.2.1 x.2.2.2.1,mR x.1 x.2.1 x.2.2.1 x.2.2.2.1,()))
theorem GC (r:Rules) (s:Int) (t:Int) (p:Int) :(evPat (ao [k85,cK] Tryz.f306) (fun _=>none) Tryz.f306 xV q2L (r,s,t,p,())).sat fun z_=>z_ =(Dv (r,s,t,p,())).2:=by
 refine cast (by kernel_rfl) (?_:let r1:Bool:=bif !inW s (1:Int) (2:Int) then true else bif !inW t (0:Int) (1000000:Int) then true else !inW p (0:Int) (1000000:Int);let r2:Innings:=Innings.mk (0:Int) (0:Int) (0:Int) (0:Int) (0:Int) (Extras.mk (0:Int) (0:Int) (0:Int) (0:Int) (0:Int)) (0:Int) (0:Int) (0:Int) (0:Int) [] (0:Int) [] [] false [] false (0:Int) (0:Int) (0:Int) [] ((0:Int),(0:Int),()) (0:Int);((aC r !=(0:Int))=true→(r2,aC r,()) =(mS r s t p,mR r s t p,()))∧((aC r !=(0:Int))=false→(r1=true→(r2,(2:Int),()) =(mS r s t p,mR r s t p,()))∧(r1=false→((0:Int)≤r.2∧r.2=r.2∧r.2≤(17179869184:Int))∧((0:Int)≤r.2∧r.2=r.2∧r.2≤(17179869184:Int))∧((0:Int)≤r.2∧r.2=r.2∧r.2≤(17179869184:Int))∧(Innings.mk s t r.4 p (0:Int) (Extras.mk (0:Int) (0:Int) (0:Int) (0:Int) p) (0:Int) (0:Int) (0:Int) (0:Int) (List.replicate r.2.toNat (0:Int)) (0:Int) [] [] false (List.replicate r.2.toNat (0:Int)) false (0:Int) (0:Int) (0:Int) (List.replicate r.2.toNat false) ((0:Int),(0:Int),()) (0:Int),(0:Int),()) =(mS r s t p,mR r s t p,()))))
 intro r1 r2
 clear_value (hr1:r1=_) (hr2:r2=_)
 have e1:r1=B0 s t p:=by rw [hr1];unfold B0;cases inW s 1 2 <;> cases inW t 0 1000000 <;> rfl
 have e2:r2=Innings.zero:=hr2
 rw [e1,e2]
 refine ⟨fun h=>?_,fun h=>⟨fun h2=>?_,fun h2=>?_⟩⟩
 ·have hL:mR r s t p=aC r:=by simp only [mR,h,if_true]
  have hY:mS r s t p=Innings.zero:=by simp only [mS,hL,h,if_true]
  rw [hL,hY]
 ·have hL:mR r s t p=2:=by simp only [mR,h,h2];rfl
  have hY:mS r s t p=Innings.zero:=by simp only [mS,hL];rfl
  rw [hL,hY]
 ·have hL:mR r s t p=0:=by simp only [mR,h,h2];rfl
  have hY:mS r s t p=Kw r s t p:=by simp only [mS,hL];rfl
  have hr:=(fb (r:=r) (by simpa using h)).1
  have hb:0≤r.Side∧r.Side=r.Side∧r.Side≤17179869184:=⟨by omega,rfl,by omega⟩
  rw [hL,hY]
  exact ⟨hb,hb,hb,rfl⟩
def EI:FuncId×Ctr:=(306,af KE xV q2L Dv)
theorem IP:CtrOK Tryz.prog KE 306 (af KE xV q2L Dv):=by
 refine aw (C:=ao [k85,cK] Tryz.f306) (al (.consU sS rfl (.consU eV rfl .nil)) _) mixed (fn:=Tryz.f306) Tryz.func306 (by kernel_rfl) (by kernel_rfl) (by kernel_rfl) (by kernel_rfl) (by kernel_rfl) (by kernel_rfl) (Λ:=fun _ _=>none) ?_ ?_
 ·exact fun _ _ _ _ _ _ _ _ h=>by cases h
 ·rintro ⟨r,s,t,p,⟨⟩⟩ hw hn
  exact GC r s t p
end Go.Proofs.YtffdpnmioidloaaGreatDoor
namespace Go.Proofs.YtffdpnmioidloaaGreatDoor
open Go Go.Mir
attribute [local irreducible] Go.Mir.DT.sat Go.Mir.evPat Go.Mir.RT.sat Go.Mir.evFn
abbrev Kt:Ty:= .slice (.nm .Innings)
abbrev qM:Pat:=bZ [.nm .Match]
abbrev qMI:Pat:=bZ [.nm .Match,I]
def dP (s:Int):Int:=W (3 - s)
def DF:Den (tyP bA)→List Prop×Den (tyP bA):=fun x=>([],(dP x.1,()))
def Fq (m:Match) (i:Int):Bool:=if m.Follow&&decide (i≥2) then i==2 else i.tmod 2==1
def da (m:Match) (i:Int):Int:=if Fq m i then dP m.First else m.First
def yf:Den (tyP qMI)→List Prop×Den (tyP bA):=fun x=>([],(da x.1 x.2.1,()))
def Kl (s:Int):List Innings→Int→Int
 | [],n=>n
 | x::l,n=>Kl s l (if x.Side==s then W (n+x.Runs) else n)
def lh (m:Match) (s:Int):Int:=Kl s m.Innings 0
def J3:Den (tyP qMI)→List Prop×Den (tyP bA):=fun x=>([],(lh x.1 x.2.1,()))
def fG (m:Match) (s:Int):Int:=
 if decide (W ((m.Innings.length:Int)+1)<W (2*m.Rules.Innings)) then 0 else W (W (lh m (dP s) - lh m s)+1)
def ym:Den (tyP qMI)→List Prop×Den (tyP bA):=fun x=>([],(fG x.1 x.2.1,()))
abbrev qTo:Pat:=⟨[(5,.h I),(1,.h I),(9,.h Kt),(10,.h I),(11,.h I)],[],0⟩
abbrev xTo:List (Lf×Pat):= [(.ext 0,⟨[(5,.h I)],[],0⟩)]
abbrev TTo:Type:=Int×Int×List Innings×Int×Int×Unit
def m7 (x:TTo):Prop:=x.2.2.2.1 =(x.2.2.1.length:Int)∧0≤x.2.2.2.2.1∧x.2.2.2.2.1≤x.2.2.2.1∧x.2.2.1.length≤aP
def F0 (x:TTo):Nat:=(x.2.2.2.1 - x.2.2.2.2.1).toNat
def ni (x:TTo):Int×Unit:=(Kl x.2.1 (x.2.2.1.drop x.2.2.2.2.1.toNat) x.1,())
theorem zb {m:Match} (h:wfD (.nm .Match) m):m.Innings.length≤aP:=
 dT (bf (aG (aG (aG (aG (BR h))))))
theorem GM (s:Int) :(evPat (ao [] Tryz.f279) (fun _=>none) Tryz.f279 bA bA (s,())).sat fun z_=>z_ =(DF (s,())).2:=by
 refine cast (by kernel_rfl) (?_ :(IntKind.i64.wrap ((3:Int) - s),()) =(dP s,()))
 rfl
def gq:FuncId×Ctr:=(279,af KE bA bA DF)
theorem lW:CtrOK Tryz.prog KE 279 (af KE bA bA DF):=by
 refine aw (C:=ao [] Tryz.f279) (al (CtrsOK.nil) _) mixed (fn:=Tryz.f279) Tryz.func279 (by kernel_rfl) (by kernel_rfl) (by kernel_rfl) (by kernel_rfl) (by kernel_rfl) (by kernel_rfl) (Λ:=fun _ _=>none) ?_ ?_
 ·exact fun _ _ _ _ _ _ _ _ h=>by cases h
 ·rintro ⟨s,⟨⟩⟩ hw hn
  exact GM s
theorem GK (m:Match) (i:Int) :(evPat (ao [gq] Tryz.f273) (fun _=>none) Tryz.f273 qMI bA (m,i,())).sat fun z_=>z_ =(yf (m,i,())).2:=by
 refine cast (by kernel_rfl) (?_:let r1:Bool:=bif bif m.4 then decide (i≥(2:Int)) else false then i ==(2:Int) else i.tmod (2:Int) ==(1:Int);(2:Int)≠(0:Int)∧(r1=true→(dP m.3,()) =(da m i,()))∧(r1=false→(m.3,()) =(da m i,())))
 intro r1
 clear_value (hr1:r1=_)
 grind [da,Fq]
def xw:FuncId×Ctr:=(273,af KE qMI bA yf)
theorem AH:CtrOK Tryz.prog KE 273 (af KE qMI bA yf):=by
 refine aw (C:=ao [gq] Tryz.f273) (al (.consU lW rfl .nil) _) mixed (fn:=Tryz.f273) Tryz.func273 (by kernel_rfl) (by kernel_rfl) (by kernel_rfl) (by kernel_rfl) (by kernel_rfl) (by kernel_rfl) (Λ:=fun _ _=>none) ?_ ?_
 ·exact fun _ _ _ _ _ _ _ _ h=>by cases h
 ·rintro ⟨m,i,⟨⟩⟩ hw hn
  exact GK m i
noncomputable def lpTo:Lp:=(⟨0,ao [] Tryz.f283,(fun _=>none),(aH Tryz.f283 0),qTo,xTo⟩:Lp)
theorem OD (a:Int) (s:Int) (xs:List Innings) (n:Int) (i:Int) (hi:m7 (a,s,xs,n,i,())) :(Go.Mir.stepG lpTo ni (fun y:Den (tyP lpTo.q)=>m7 y∧F0 y<F0 (a,s,xs,n,i,())) (a,s,xs,n,i,())∧Go.Mir.stepE lpTo ni (a,s,xs,n,i,())=ni (a,s,xs,n,i,())):=by
 refine cast (by kernel_rfl) (?_:let r1:Bool:=(xs.getD i.toNat (dflt (Ty.nm Nm.Innings))).1==s;let r2:Int×Unit:=ni (bif r1 then IntKind.i64.wrap (a +(xs.getD i.toNat (dflt (Ty.nm Nm.Innings))).4) else a,s,xs,n,IntKind.i64.wrap (i +(1:Int)),());((decide (i<n)=true→(((0:Int)≤i∧i <(↑xs.length:Int))∧(r1=true→True)∧(r1=false→True))∧(true=true→m7 (bif r1 then IntKind.i64.wrap (a +(xs.getD i.toNat (dflt (Ty.nm Nm.Innings))).4) else a,s,xs,n,IntKind.i64.wrap (i +(1:Int)),())∧F0 (bif r1 then IntKind.i64.wrap (a +(xs.getD i.toNat (dflt (Ty.nm Nm.Innings))).4) else a,s,xs,n,IntKind.i64.wrap (i +(1:Int)),())<F0 (a,s,xs,n,i,())))∧(decide (i<n)=false→True))∧(bif decide (i<n) then bif true&&true then r2 else bif true then r2 else bif r1 then dflt (I.prod Ty.unit) else dflt (I.prod Ty.unit) else (a,()))=ni (a,s,xs,n,i,()))
 intro r1 r2
 clear_value (hr1:r1=_) (hr2:r2=_)
 obtain ⟨h1,h2,h3,h4⟩:=hi
 simp only at h1 h2 h3 h4
 have h5 :(xs.length:Int)≤140737488355328:=by have:xs.length≤140737488355328:=h4;omega
 refine ⟨⟨fun h=>?_,fun _=>trivial⟩,?_⟩
 ·have h:i<n:=of_decide_eq_true h
  rw [bb (n:=i+1) (by omega) (by omega)]
  exact ⟨⟨⟨h2,by omega⟩,fun _=>trivial,fun _=>trivial⟩,fun _=>⟨⟨h1,by simp only;omega,by simp only;omega,h4⟩,by simp only [F0];omega⟩⟩
 ·by_cases h:i<n
  ·rw [bb (n:=i+1) (by omega) (by omega)] at hr2
   have e:xs.drop i.toNat=xs.getD i.toNat (dflt (Ty.nm Nm.Innings))::xs.drop (i+1).toNat:=dI h2 (by omega) _
   rw [decide_eq_true h]
   show r2=_
   rw [hr2,hr1]
   generalize xs.getD i.toNat (dflt (Ty.nm Nm.Innings))=v at e ⊢
   simp only [ni,e,Kl]
   cases v.Side==s <;> rfl
  ·rw [decide_eq_false h,cond_false]
   simp only [ni]
   rw [cM (l:=xs) (by omega)]
   rfl
noncomputable def Ni:LoopSum:=bh lpTo ni m7
noncomputable def M6:Nat:=rid (aH Tryz.f283 0)
theorem NQ:LoopOKp Tryz.prog 0 Tryz.f283.ntmps (aH Tryz.f283 0) (bh lpTo ni m7):=
 cj lpTo (al (CtrsOK.nil) _) mixed (fun b hb S hS=>by cases hS) ni m7 F0 (fun |⟨a,s,xs,n,i,⟨⟩⟩,hi=>OD a s xs n i hi)
theorem GN (m:Match) (s:Int) (hx:m.Innings.length≤aP) :(evPat (ao [] Tryz.f283) (find [(M6,Ni)]) Tryz.f283 qMI bA (m,s,())).sat fun z_=>z_ =(J3 (m,s,())).2:=by
 refine cast (by kernel_rfl) (?_ :((fW fun x=>none)∧(↑m.5.length:Int) =(↑m.5.length:Int)∧(0:Int)≤(0:Int)∧(0:Int)≤(↑m.5.length:Int)∧m.5.length≤aP)∧(Kl s (List.drop (Int.toNat (0:Int)) m.5) (0:Int),()) =(lh m s,()))
 exact ⟨⟨rfl,rfl,Int.le_refl _,by omega,hx⟩,rfl⟩
def mD:FuncId×Ctr:=(283,af KE qMI bA J3)
theorem sY:CtrOK Tryz.prog KE 283 (af KE qMI bA J3):=by
 refine aw (C:=ao [] Tryz.f283) (al (CtrsOK.nil) _) mixed (fn:=Tryz.f283) Tryz.func283 (by kernel_rfl) (by kernel_rfl) (by kernel_rfl) (by kernel_rfl) (by kernel_rfl) (by kernel_rfl) (Λ:=fun x=>find [(M6,Ni)]) ?_ ?_
 ·rintro ⟨m,s,⟨⟩⟩ hw hn
  exact LoopsOKp.at (by kernel_rfl) (.cons (by kernel_rfl) (NQ) .nil)
 ·rintro ⟨m,s,⟨⟩⟩ hw hn
  exact GN m s (zb (bf hw))
theorem Dm (m:Match) (s:Int) :(evPat (ao [gq,mD] Tryz.f307) (fun _=>none) Tryz.f307 qMI bA (m,s,())).sat fun z_=>z_ =(ym (m,s,())).2:=by
 refine cast (by kernel_rfl) (?_:let r1:Int:=IntKind.i64.wrap ((2:Int)*m.1.3);let r2:Int:=IntKind.i64.wrap ((↑m.5.length:Int) +(1:Int));let r3:Bool:=decide (r2<r1);(r3=true→((0:Int),()) =(fG m s,()))∧(r3=false→(IntKind.i64.wrap (IntKind.i64.wrap (lh m (dP s) - lh m s) +(1:Int)),()) =(fG m s,())))
 intro r1 r2 r3
 clear_value (hr1:r1=_) (hr2:r2=_) (hr3:r3=_)
 grind [fG]
def An:FuncId×Ctr:=(307,af KE qMI bA ym)
theorem Gf:CtrOK Tryz.prog KE 307 (af KE qMI bA ym):=by
 refine aw (C:=ao [gq,mD] Tryz.f307) (al (.consU lW rfl (.consU sY rfl .nil)) _) mixed (fn:=Tryz.f307) Tryz.func307 (by kernel_rfl) (by kernel_rfl) (by kernel_rfl) (by kernel_rfl) (by kernel_rfl) (by kernel_rfl) (Λ:=fun _ _=>none) ?_ ?_
 ·exact fun _ _ _ _ _ _ _ _ h=>by cases h
 ·rintro ⟨m,s,⟨⟩⟩ hw hn
  exact Dm m s
end Go.Proofs.YtffdpnmioidloaaGreatDoor
namespace Go.Proofs.YtffdpnmioidloaaGreatDoor
open Go Go.Mir
attribute [local irreducible] Go.Mir.DT.sat Go.Mir.evPat Go.Mir.RT.sat Go.Mir.evFn
def Il (st n i:Int):Bool:=st==3&&i==W (n - 1)
def B9 (st n:Int):List Innings→Int→Bool
 | [],_=>true
 | x::l,i=>if (x.Ending==0) != Il st n i then false else B9 st n l (i+1)
def ki (m:Match):Bool:=B9 m.Stage m.Innings.length m.Innings 0&&(m.Stage != 3||decide ((m.Innings.length:Int)>0))
def DA:Den (tyP qM)→List Prop×Den (tyP aF):=fun x=>([],(ki x.1,()))
abbrev qEn:Pat:=⟨[(1,.c (.ptr 0 0)),(3,.h I),(10,.h Kt),(11,.h I),(12,.h I)],[(0,.dat (.nm .Match))],1⟩
abbrev xEn:List (Lf×Pat):= [(.ret,⟨[(2,.h .bool)],[],0⟩),(.ext 0,⟨[(1,.c (.ptr 0 0)),(3,.h I)],[(0,.dat (.nm .Match))],1⟩)]
abbrev TEn:Type:=Int×List Innings×Int×Int×Match×Unit
def vk (x:TEn):Prop:=m7 (0,0,x.2.1,x.2.2.1,x.2.2.2.1,())
def FZ (x:TEn):Nat:=(x.2.2.1 - x.2.2.2.1).toNat
def MR (n:Int) (m:Match) (b:Bool):Sum (Bool×Unit) (Int×Match×Unit):=if b then .inr (n,m,()) else .inl (false,())
def jt (x:TEn):Sum (Bool×Unit) (Int×Match×Unit):=MR x.1 x.2.2.2.2.1 (B9 x.2.2.2.2.1.Stage x.1 (x.2.1.drop x.2.2.2.1.toNat) x.2.2.2.1)
noncomputable def lpEn:Lp:=(⟨0,ao [] Tryz.f274,(fun _=>none),(aH Tryz.f274 0),qEn,xEn⟩:Lp)
theorem OB (k:Int) (xs:List Innings) (n:Int) (i:Int) (m:Match) (hi:vk (k,xs,n,i,m,())) :(Go.Mir.stepG lpEn jt (fun y:Den (tyP lpEn.q)=>vk y∧FZ y<FZ (k,xs,n,i,m,())) (k,xs,n,i,m,())∧Go.Mir.stepE lpEn jt (k,xs,n,i,m,())=jt (k,xs,n,i,m,())):=by
 refine cast (by kernel_rfl) (?_:let r1:Bool:=(xs.getD i.toNat (dflt (Ty.nm Nm.Innings))).23 ==(0:Int);let r2:Bool:=bif m.2 ==(3:Int) then !r1 ==(i==IntKind.i64.wrap (k - (1:Int))) else !r1==false;((decide (i<n)=true→((0:Int)≤i∧i <(↑xs.length:Int))∧(r2=true→True)∧(r2=false→vk (k,xs,n,IntKind.i64.wrap (i +(1:Int)),m,())∧FZ (k,xs,n,IntKind.i64.wrap (i +(1:Int)),m,())<FZ (k,xs,n,i,m,())))∧(decide (i<n)=false→True))∧(bif decide (i<n) then bif r2 then Sum.inl (false,()) else jt (k,xs,n,IntKind.i64.wrap (i +(1:Int)),m,()) else Sum.inr (k,m,()))=jt (k,xs,n,i,m,()))
 intro r1 r2
 clear_value (hr1:r1=_) (hr2:r2=_)
 obtain ⟨h1,h2,h3,h4⟩:=hi
 simp only at h1 h2 h3 h4
 have h5 :(xs.length:Int)≤140737488355328:=by have:xs.length≤140737488355328:=h4;omega
 refine ⟨⟨fun h=>?_,fun _=>trivial⟩,?_⟩
 ·have h:i<n:=of_decide_eq_true h
  rw [bb (n:=i+1) (by omega) (by omega)]
  exact ⟨⟨h2,by omega⟩,fun _=>trivial,fun _=>⟨⟨h1,by simp only;omega,by simp only;omega,h4⟩,by simp only [FZ];omega⟩⟩
 ·by_cases h:i<n
  ·have e:xs.drop i.toNat=xs.getD i.toNat (dflt (Ty.nm Nm.Innings))::xs.drop (i+1).toNat:=dI h2 (by omega) _
   rw [decide_eq_true h,cond_true,bb (n:=i+1) (by omega) (by omega)]
   generalize xs.getD i.toNat (dflt (Ty.nm Nm.Innings))=v at e hr1
   have e2:r2 =((v.Ending==0) != Il m.Stage k i):=by
    rw [hr2,hr1]
    unfold Il
    cases m.Stage==3 <;> cases v.Ending==0 <;> cases i==IntKind.i64.wrap (k - 1) <;> rfl
   simp only [jt,e,B9]
   rw [←e2]
   cases r2 <;> rfl
  ·rw [decide_eq_false h,cond_false]
   simp only [jt]
   rw [cM (l:=xs) (by omega)]
   rfl
noncomputable def Ng:LoopSum:=bh lpEn jt vk
noncomputable def M4:Nat:=rid (aH Tryz.f274 0)
theorem NO:LoopOKp Tryz.prog 0 Tryz.f274.ntmps (aH Tryz.f274 0) (bh lpEn jt vk):=
 cj lpEn (al (CtrsOK.nil) _) mixed (fun b hb S hS=>by cases hS) jt vk FZ (fun |⟨k,xs,n,i,m,⟨⟩⟩,hi=>OB k xs n i m hi)
theorem GJ (m:Match) (hx:m.Innings.length≤aP) :(evPat (ao [] Tryz.f274) (find [(M4,Ng)]) Tryz.f274 qM aF (m,())).sat fun z_=>z_ =(DA (m,())).2:=by
 refine cast (by kernel_rfl) (?_:let r1:Bool:=isL (jt ((↑m.5.length:Int),m.5,(↑m.5.length:Int),(0:Int),m,()));let r2:Int×Match×PUnit:=xk (dflt (I.prod ((Ty.nm Nm.Match).prod Ty.unit))) (jt ((↑m.5.length:Int),m.5,(↑m.5.length:Int),(0:Int),m,()));((fW fun x=>none)∧(↑m.5.length:Int) =(↑m.5.length:Int)∧(0:Int)≤(0:Int)∧(0:Int)≤(↑m.5.length:Int)∧m.5.length≤aP)∧(r1=true→ov (dflt (Ty.bool.prod Ty.unit)) (jt ((↑m.5.length:Int),m.5,(↑m.5.length:Int),(0:Int),m,())) =(ki m,()))∧(r1=false→(bif r2.2.1.2 !=(3:Int) then true else decide (r2.1 >(0:Int)),()) =(ki m,())))
 intro r1 r2
 clear_value (hr1:r1=_) (hr2:r2=_)
 have er:jt ((m.Innings.length:Int),m.Innings,(m.Innings.length:Int),0,m,())=MR m.Innings.length m (B9 m.Stage m.Innings.length m.Innings 0):=rfl
 rw [er] at hr1 hr2 ⊢
 refine ⟨⟨rfl,rfl,Int.le_refl _,by omega,hx⟩,fun h=>?_,fun h=>?_⟩
 ·cases hE:B9 m.Stage m.Innings.length m.Innings 0 with
  | true=>rw [hE] at hr1;rw [hr1] at h;cases h
  | false=>simp only [ki,hE];rfl
 ·cases hE:B9 m.Stage m.Innings.length m.Innings 0 with
  | false=>rw [hE] at hr1;rw [hr1] at h;cases h
  | true=>
   rw [hE] at hr2
   have e2:r2 =((m.Innings.length:Int),m,()):=hr2
   rw [e2]
   simp only [ki,hE]
   cases m.Stage != 3 <;> rfl
def q7:FuncId×Ctr:=(274,af KE qM aF DA)
theorem AG:CtrOK Tryz.prog KE 274 (af KE qM aF DA):=by
 refine aw (C:=ao [] Tryz.f274) (al (CtrsOK.nil) _) mixed (fn:=Tryz.f274) Tryz.func274 (by kernel_rfl) (by kernel_rfl) (by kernel_rfl) (by kernel_rfl) (by kernel_rfl) (by kernel_rfl) (Λ:=fun x=>find [(M4,Ng)]) ?_ ?_
 ·rintro ⟨m,⟨⟩⟩ hw hn
  exact LoopsOKp.at (by kernel_rfl) (.cons (by kernel_rfl) (NO) .nil)
 ·rintro ⟨m,⟨⟩⟩ hw hn
  exact GJ m (zb (bf hw))
end Go.Proofs.YtffdpnmioidloaaGreatDoor
namespace Go.Proofs.YtffdpnmioidloaaGreatDoor
open Go Go.Mir
attribute [local irreducible] Go.Mir.DT.sat Go.Mir.evPat Go.Mir.RT.sat Go.Mir.evFn
def gb (l:List Innings):Prop:=∀ z∈l,ah z
def jF (m:Match):Prop:=gb m.Innings
def okF (m:Match):List Innings→Int→Bool
 | [],_=>true
 | x::l,i=>if !bP m.Rules x||x.Side != da m i then false else okF m l (i+1)
abbrev qVa:Pat:=⟨[(1,.c (.ptr 0 0)),(122,.h Kt),(123,.h I),(124,.h I)],[(0,.dat (.nm .Match))],1⟩
abbrev xVa:List (Lf×Pat):= [(.ret,⟨[(2,.h .bool)],[],0⟩),(.ext 3,⟨[(1,.c (.ptr 0 0))],[(0,.dat (.nm .Match))],1⟩)]
abbrev TVa:Type:=List Innings×Int×Int×Match×Unit
def vm (x:TVa):Prop:=m7 (0,0,x.1,x.2.1,x.2.2.1,())∧gb x.1
def F1 (x:TVa):Nat:=(x.2.1 - x.2.2.1).toNat
def Fb (m:Match) (b:Bool):Sum (Bool×Unit) (Match×Unit):=if b then .inr (m,()) else .inl (false,())
def iV (x:TVa):Sum (Bool×Unit) (Match×Unit):=Fb x.2.2.2.1 (okF x.2.2.2.1 (x.1.drop x.2.2.1.toNat) x.2.2.1)
def iZ (m:Match):Bool:=
 let n:Int:=m.Innings.length
 (decide (m.First<0) ||(decide (m.First>2)||decide (n>W (2*m.Rules.Innings))))
 ||(m.First==0&&(decide (n>0)||m.Stage != 1&&m.Stage != 5))
 ||(m.Stage==1&&m.First != 0)
 ||(m.Stage==2&&n==W (2*m.Rules.Innings))
 ||(m.Stage==4&&(!(m.Rules.Innings==2)||n != 2))
 ||(m.Follow&&(!(m.Rules.Innings==2)||decide (n<2)))
def CX (m:Match):Bool:=!inW m.Penalty.1 0 1000000||!inW m.Penalty.2.1 0 1000000
def aW (m:Match):Bool:=aC m.Rules==0&&(inW m.Stage 1 5&&(!CX m&&(!iZ m&&(okF m m.Innings 0&&ki m))))
def yp:Den (tyP qM)→List Prop×Den (tyP aF):=fun x=>([jF x.1],(aW x.1,()))
theorem jK {α:Type} {xs:List α} {i:Nat} (h:i<xs.length) (d:α):xs.getD i d∈xs:=by
 rw [List.getD_eq_getElem?_getD,List.getElem?_eq_getElem h]
 exact List.getElem_mem h
noncomputable def lpVa:Lp:=(⟨0,ao [oB,xw] Tryz.f233,(fun _=>none),(aH Tryz.f233 1),qVa,xVa⟩:Lp)
theorem OE (xs:List Innings) (n:Int) (i:Int) (m:Match) (hi:vm (xs,n,i,m,())) :(Go.Mir.stepG lpVa iV (fun y:Den (tyP lpVa.q)=>vm y∧F1 y<F1 (xs,n,i,m,())) (xs,n,i,m,())∧Go.Mir.stepE lpVa iV (xs,n,i,m,())=iV (xs,n,i,m,())):=by
 refine cast (by kernel_rfl) (?_:let r1:Bool:=!bP m.1 (xs.getD i.toNat (dflt (Ty.nm Nm.Innings)));let r2:Bool:=bif r1 then true else (xs.getD i.toNat (dflt (Ty.nm Nm.Innings))).1 != da m i;((decide (i<n)=true→((0:Int)≤i∧i <(↑xs.length:Int))∧(ah (xs.getD i.toNat (dflt (Ty.nm Nm.Innings)))∧(r1=true→True)∧(r1=false→True))∧(true=true→(r2=true→True)∧(r2=false→vm (xs,n,IntKind.i64.wrap (i +(1:Int)),m,())∧F1 (xs,n,IntKind.i64.wrap (i +(1:Int)),m,())<F1 (xs,n,i,m,()))))∧(decide (i<n)=false→True))∧(bif decide (i<n) then bif true&&true then bif r2 then Sum.inl (false,()) else iV (xs,n,IntKind.i64.wrap (i +(1:Int)),m,()) else bif true then bif r2 then Sum.inl (false,()) else iV (xs,n,IntKind.i64.wrap (i +(1:Int)),m,()) else bif r1 then Sum.inl (dflt (Ty.bool.prod Ty.unit)) else Sum.inl (dflt (Ty.bool.prod Ty.unit)) else Sum.inr (m,()))=iV (xs,n,i,m,()))
 intro r1 r2
 clear_value (hr1:r1=_) (hr2:r2=_)
 obtain ⟨⟨h1,h2,h3,h4⟩,hs⟩:=hi
 simp only at h1 h2 h3 h4 hs
 have h5 :(xs.length:Int)≤140737488355328:=by have:xs.length≤140737488355328:=h4;omega
 refine ⟨⟨fun h=>?_,fun _=>trivial⟩,?_⟩
 ·have h:i<n:=of_decide_eq_true h
  rw [bb (n:=i+1) (by omega) (by omega)]
  refine ⟨⟨h2,by omega⟩,⟨hs _ ?_,fun _=>trivial,fun _=>trivial⟩,fun _=>⟨fun _=>trivial,fun _=>⟨⟨⟨h1,by simp only;omega,by simp only;omega,h4⟩,hs⟩,by simp only [F1];omega⟩⟩⟩
  have hl:i.toNat<xs.length:=by omega
  exact jK hl _
 ·by_cases h:i<n
  ·have e:xs.drop i.toNat=xs.getD i.toNat (dflt (Ty.nm Nm.Innings))::xs.drop (i+1).toNat:=dI h2 (by omega) _
   rw [decide_eq_true h,bb (n:=i+1) (by omega) (by omega)]
   generalize xs.getD i.toNat (dflt (Ty.nm Nm.Innings))=v at e hr1 hr2
   have e2:r2 =(!bP m.Rules v||v.Side != da m i):=by
    rw [hr2,hr1]
    cases bP m.Rules v <;> rfl
   simp only [iV,e,okF]
   rw [←e2]
   cases r2 <;> rfl
  ·rw [decide_eq_false h,cond_false]
   simp only [iV]
   rw [cM (l:=xs) (by omega)]
   rfl
noncomputable def Nj:LoopSum:=bh lpVa iV vm
noncomputable def M7:Nat:=rid (aH Tryz.f233 1)
theorem NR:LoopOKp Tryz.prog 0 Tryz.f233.ntmps (aH Tryz.f233 1) (bh lpVa iV vm):=
 cj lpVa (al (.consU sX rfl (.consU AH rfl .nil)) _) mixed (fun b hb S hS=>by cases hS) iV vm F1 (fun |⟨xs,n,i,m,⟨⟩⟩,hi=>OE xs n i m hi)
theorem GO (m:Match) (hm:jF m) (hx:m.Innings.length≤aP) :(evPat (ao [k85,q7] Tryz.f233) (find [(rid (aH Tryz.f233 0),dY 3 (ao [k85,q7] Tryz.f233) (fun _=>none) (aH Tryz.f233 0)),(M7,Nj)]) Tryz.f233 qM aF (m,())).sat fun z_=>z_ =(yp (m,())).2:=by
 refine cast (by kernel_rfl) (?_:let r1:Bool:=!m.1.3 ==(2:Int);let r2:Int:=IntKind.i64.wrap ((2:Int)*m.1.3);let r3:Int:=IntKind.i64.wrap ((0:Int) +(1:Int));let r4:Bool:=bif m.2 ==(1:Int) then m.3 !=(0:Int) else false;let r5:Bool:=bif decide (m.6.1 <(0:Int)) then true else decide (m.6.1 >(1000000:Int));let r6:Bool:=bif m.2 ==(2:Int) then (↑m.5.length:Int)==r2 else false;let r7:Bool:=bif decide (m.6.2.1 <(0:Int)) then true else decide (m.6.2.1 >(1000000:Int));let r8:Bool:=bif m.2 ==(4:Int) then bif r1 then true else (↑m.5.length:Int) !=(2:Int) else false;let r9:Bool:=bif m.4 then bif r1 then true else decide ((↑m.5.length:Int) <(2:Int)) else false;let r10:Bool:=bif aC m.1 !=(0:Int) then true else bif decide (m.2 <(1:Int)) then true else decide (m.2 >(5:Int));let r11:Bool:=bif m.3 ==(0:Int) then bif decide ((↑m.5.length:Int) >(0:Int)) then true else bif m.2 !=(1:Int) then m.2 !=(5:Int) else false else false;let r12:Bool:=bif decide (m.3 <(0:Int)) then true else bif decide (m.3 >(2:Int)) then true else decide ((↑m.5.length:Int)>r2);let r13:Bool:=isL (iV (m.5,(↑m.5.length:Int),(0:Int),m,()));(r10=true→(false,()) =(aW m,()))∧(r10=false→True∧((0:Int)≤(0:Int)∧(0:Int) <(↑(2:Nat):Int))∧(r5=true→(false,()) =(aW m,()))∧(r5=false→((0:Int)≤r3∧r3 <(↑(2:Nat):Int))∧(r7=true→(false,()) =(aW m,()))∧(r7=false→(r12=true→(false,()) =(aW m,()))∧(r12=false→(r11=true→(false,()) =(aW m,()))∧(r11=false→(r4=true→(false,()) =(aW m,()))∧(r4=false→(r6=true→(false,()) =(aW m,()))∧(r6=false→(r8=true→(false,()) =(aW m,()))∧(r8=false→(r9=true→(false,()) =(aW m,()))∧(r9=false→((fW fun x=>none)∧m7 ((0:Int),(0:Int),m.5,(↑m.5.length:Int),(0:Int),())∧gb m.5)∧(r13=true→ov (dflt (Ty.bool.prod Ty.unit)) (iV (m.5,(↑m.5.length:Int),(0:Int),m,())) =(aW m,()))∧(r13=false→(ki (xk (dflt ((Ty.nm Nm.Match).prod Ty.unit)) (iV (m.5,(↑m.5.length:Int),(0:Int),m,()))).1,()) =(aW m,()))))))))))))
 intro r1 r2 r3 r4 r5 r6 r7 r8 r9 r10 r11 r12 r13
 clear_value (hr1:r1=_) (hr2:r2=_) (hr3:r3=_) (hr4:r4=_) (hr5:r5=_) (hr6:r6=_) (hr7:r7=_) (hr8:r8=_) (hr9:r9=_) (hr10:r10=_) (hr11:r11=_) (hr12:r12=_) (hr13:r13=_)
 have er:iV (m.Innings,(m.Innings.length:Int),0,m,())=Fb m (okF m m.Innings 0):=rfl
 have n3:r3=1:=by rw [hr3];rfl
 have e10:r10=!(aC m.Rules==0&&inW m.Stage 1 5):=by
  have h1:decide (m.Stage<1)=!decide (m.Stage≥1):=by by_cases h:m.Stage≥1 <;> simp [h] <;> omega
  have h2:decide (m.Stage>5)=!decide (m.Stage≤5):=by by_cases h:m.Stage≤5 <;> simp [h] <;> omega
  rw [hr10,h1,h2]
  unfold inW
  cases hc:aC m.Rules==0 <;> cases decide (m.Stage≥1) <;> cases decide (m.Stage≤5) <;> simp [bne,hc]
 have hq :∀ k:Int,(bif decide (k<0) then true else decide (k>1000000))=!inW k 0 1000000:=fun k=>by
  have h1:decide (k<0)=!decide (k≥0):=by by_cases h:k≥0 <;> simp [h] <;> omega
  have h2:decide (k>1000000)=!decide (k≤1000000):=by by_cases h:k≤1000000 <;> simp [h] <;> omega
  rw [h1,h2]
  unfold inW
  cases decide (k≥0) <;> cases decide (k≤1000000) <;> rfl
 have ep:CX m =(r5||r7):=by rw [hr5,hr7,hq,hq];rfl
 have es:iZ m =(((((r12||r11)||r4)||r6)||r8)||r9):=by
  rw [hr12,hr11,hr4,hr6,hr8,hr9,hr1,hr2]
  simp only [iZ,Bool.cond_true_left,Bool.cond_false_right]
 have hv:aW m =(!r10&&(!CX m&&(!iZ m&&(okF m m.Innings 0&&ki m)))):=by rw [e10];unfold aW;simp only [Bool.not_not,Bool.and_assoc]
 rw [er] at hr13
 rw [er,hv,ep,es,n3]
 clear hr1 hr2 hr3 hr4 hr5 hr6 hr7 hr8 hr9 hr10 hr11 hr12 ep es hv e10 hq
 have hi:m7 (0,0,m.Innings,(m.Innings.length:Int),0,()):=⟨rfl,Int.le_refl _,by simp only;omega,hx⟩
 have hm':gb m.Innings:=hm
 cases r10 with
 | true=>simp
 | false=>
 cases r5 with
 | true=>simp
 | false=>
 cases r7 with
 | true=>simp
 | false=>
 cases r12 with
 | true=>simp
 | false=>
 cases r11 with
 | true=>simp
 | false=>
 cases r4 with
 | true=>simp
 | false=>
 cases r6 with
 | true=>simp
 | false=>
 cases r8 with
 | true=>simp
 | false=>
 cases r9 with
 | true=>simp
 | false=>
 cases hF:okF m m.Innings 0 with
 | true=>rw [hF] at hr13;have e:r13=false:=hr13;simp [e,Fb,xk,fW,hi,hm']
 | false=>rw [hF] at hr13;have e:r13=true:=hr13;simp [e,Fb,ov,fW,hi,hm'];rfl
def q8:FuncId×Ctr:=(233,af KE qM aF yp)
theorem AI:CtrOK Tryz.prog KE 233 (af KE qM aF yp):=by
 refine aw (C:=ao [k85,q7] Tryz.f233) (al (.consU sS rfl (.consU AG rfl .nil)) _) mixed (fn:=Tryz.f233) Tryz.func233 (by kernel_rfl) (by kernel_rfl) (by kernel_rfl) (by kernel_rfl) (by kernel_rfl) (by kernel_rfl) (Λ:=fun x=>find [(rid (aH Tryz.f233 0),dY 3 (ao [k85,q7] Tryz.f233) (fun _=>none) (aH Tryz.f233 0)),(M7,Nj)]) ?_ ?_
 ·rintro ⟨m,⟨⟩⟩ hw hn
  exact LoopsOKp.at (by kernel_rfl) (.cons (by kernel_rfl) (mP 3 (al (.consU sS rfl (.consU AG rfl .nil)) _) mixed (Λ:=fun _=>none) (b:=aH Tryz.f233 0) rfl (fun _ _ _ h=>by cases h)) (.cons (by kernel_rfl) (NR) .nil))
 ·rintro ⟨m,⟨⟩⟩ hw hn
  exact GO m (hn _ List.mem_cons_self) (zb (bf hw))
end Go.Proofs.YtffdpnmioidloaaGreatDoor
namespace Go.Proofs.YtffdpnmioidloaaGreatDoor
open Go Go.Mir
attribute [local irreducible] Go.Mir.DT.sat Go.Mir.evPat Go.Mir.RT.sat Go.Mir.evFn
end Go.Proofs.YtffdpnmioidloaaGreatDoor
namespace Go.Proofs.YtffdpnmioidloaaGreatDoor
open Go Go.Mir
attribute [local irreducible] Go.Mir.DT.sat Go.Mir.evPat Go.Mir.RT.sat Go.Mir.evFn
def EX (m:Match):Int:=W (2*m.Rules.Innings)
end Go.Proofs.YtffdpnmioidloaaGreatDoor
namespace Go.Proofs.YtffdpnmioidloaaGreatDoor
open Go Go.Mir
end Go.Proofs.YtffdpnmioidloaaGreatDoor
namespace Go.Proofs.YtffdpnmioidloaaGreatDoor
open Go Go.Mir
attribute [local irreducible] Go.Mir.DT.sat Go.Mir.evPat Go.Mir.RT.sat Go.Mir.evFn
abbrev qRu:Pat:=bZ [.nm .Rules]
def dR (r:Rules):Int:=if r.Overs==0 then 5 else 6
def DV:Den (tyP qRu)→List Prop×Den (tyP qH):=fun x=>([],(dR x.1,()))
theorem tF (r:Rules) :(evPat (ao [] Tryz.f309) (fun _=>none) Tryz.f309 qRu qH (r,())).sat fun z_=>z_ =(DV (r,())).2:=by
 refine cast (by kernel_rfl) (?_ :((r.4 ==(0:Int))=true→((5:Int),()) =(dR r,()))∧((r.4 ==(0:Int))=false→((6:Int),()) =(dR r,())))
 grind [dR]
def hJ:FuncId×Ctr:=(309,af KE qRu qH DV)
theorem na:CtrOK Tryz.prog KE 309 (af KE qRu qH DV):=by
 refine aw (C:=ao [] Tryz.f309) (al (CtrsOK.nil) _) mixed (fn:=Tryz.f309) Tryz.func309 (by kernel_rfl) (by kernel_rfl) (by kernel_rfl) (by kernel_rfl) (by kernel_rfl) (by kernel_rfl) (Λ:=fun _ _=>none) ?_ ?_
 ·exact fun _ _ _ _ _ _ _ _ h=>by cases h
 ·rintro ⟨r,⟨⟩⟩ hw hn
  exact tF r
end Go.Proofs.YtffdpnmioidloaaGreatDoor
namespace Go.Proofs.YtffdpnmioidloaaGreatDoor
open Go Go.Mir
attribute [local irreducible] Go.Mir.DT.sat Go.Mir.evPat Go.Mir.RT.sat Go.Mir.evFn
def aQ (m:Match):Prop:=jF m∧m.Innings.length≤1000000∧m.Rules.Power.length≤1000000
abbrev B2 (s:PC0):List PC0:= [.h .str,.h I,.h I,.h I,.h I,.h I,.h I,.h I,.h .bool,.h I,.h I,.h I,.h I,.h (.slice (.nm .Phase)),.h U8,.h I,.h .bool,s,.h I,.h I,.h U8,.h I,.h I]
abbrev qMo:Pat:=⟨[(0,.a (B2 (.c (.osl 0 1))))],[(0,.row 1 (.nm .Innings))],2⟩
abbrev qK:Pat:=bZ [.nm .Match,I]
def _root_.Go.Mir.mkM (v1:ByteArray) (v2:Int) (v3:Int) (v4:Int) (v5:Int) (v6:Int) (v7:Int) (v8:Int) (v9:Bool) (v10:Int) (v11:Int) (v12:Int) (v13:Int) (v14:List Phase) (v15:Int) (v16:Int) (v17:Bool) (v18:Int) (v19:Int) (v20:Int) (v21:Int) (v22:Int) (xs:List Innings):Match:=
 { Rules:={ Name:=v1,Side:=v2,Innings:=v3,Overs:=v4,Balls:=v5,Quota:=v6,Wide:=v7,NoBall:=v8,FreeHit:=v9,NewBall:=v10,FollowOn:=v11,Reviews:=v12,Outside:=v13,Power:=v14 },Stage:=v15,First:=v16,Follow:=v17,Innings:=xs,Penalty:=(v18,v19,()),Result:={ Win:=v20,Side:=v21,Margin:=v22 } }
abbrev TM:Type:=ByteArray×Int×Int×Int×Int×Int×Int×Int×Bool×Int×Int×Int×Int×List Phase×Int×Int×Bool×Int×Int×Int×Int×Int×List Innings×Unit
def _root_.Go.Mir.mkX (x:TM):Match:=(mkM x.1 x.2.1 x.2.2.1 x.2.2.2.1 x.2.2.2.2.1 x.2.2.2.2.2.1 x.2.2.2.2.2.2.1 x.2.2.2.2.2.2.2.1 x.2.2.2.2.2.2.2.2.1 x.2.2.2.2.2.2.2.2.2.1 x.2.2.2.2.2.2.2.2.2.2.1 x.2.2.2.2.2.2.2.2.2.2.2.1 x.2.2.2.2.2.2.2.2.2.2.2.2.1 x.2.2.2.2.2.2.2.2.2.2.2.2.2.1 x.2.2.2.2.2.2.2.2.2.2.2.2.2.2.1 x.2.2.2.2.2.2.2.2.2.2.2.2.2.2.2.1 x.2.2.2.2.2.2.2.2.2.2.2.2.2.2.2.2.1 x.2.2.2.2.2.2.2.2.2.2.2.2.2.2.2.2.2.1 x.2.2.2.2.2.2.2.2.2.2.2.2.2.2.2.2.2.2.1 x.2.2.2.2.2.2.2.2.2.2.2.2.2.2.2.2.2.2.2.1 x.2.2.2.2.2.2.2.2.2.2.2.2.2.2.2.2.2.2.2.2.1 x.2.2.2.2.2.2.2.2.2.2.2.2.2.2.2.2.2.2.2.2.2.1 x.2.2.2.2.2.2.2.2.2.2.2.2.2.2.2.2.2.2.2.2.2.2.1)
def LI:Ty:= .prod (.slice (.nm .Phase)) .unit
def y5:Den LI→PRes:=fun x=>⟨[x.1.length≤1000000],.osl 0 0,[⟨.nm .Phase,x.1⟩]⟩
def Ad:FuncId×Ctr:=(232,ar KE LI y5)
def tL:Den (tyP qRu)→List Prop×Den (tyP qRu):=fun x=>([x.1.Power.length≤1000000],(x.1,()))
def yb:Den (tyP qM)→List Prop×Den (tyP qMo):=fun x=>([aQ x.1],(x.1.Rules.Name,x.1.Rules.Side,x.1.Rules.Innings,x.1.Rules.Overs,x.1.Rules.Balls,x.1.Rules.Quota,x.1.Rules.Wide,x.1.Rules.NoBall,x.1.Rules.FreeHit,x.1.Rules.NewBall,x.1.Rules.FollowOn,x.1.Rules.Reviews,x.1.Rules.Outside,x.1.Rules.Power,x.1.Stage,x.1.First,x.1.Follow,x.1.Penalty.1,x.1.Penalty.2.1,x.1.Result.Win,x.1.Result.Side,x.1.Result.Margin,x.1.Innings,()))
def pB (r:Rules):Match:=if aC r != 0 then Match.zero else { Match.zero with Rules:=r,Stage:=1 }
def Og:Den (tyP qRu)→List Prop×Den (tyP qK):=fun x=>([],(pB x.1,aC x.1,()))
abbrev Pb:List (Nat×PB):= [(0,.dat (.nm .Match)),(1,.dat (.nm .Match)),(2,.row 3 (.nm .Innings))]
abbrev qCl:Pat:=⟨[(1,.c (.ptr 0 0)),(2,.c (.ptr 1 0)),(3,.c (.osl 2 3)),(11,.h Kt),(12,.h I),(13,.h I)],Pb,4⟩
abbrev xCl:List (Lf×Pat):= [(.ext 0,⟨[(1,.c (.ptr 0 0)),(2,.c (.ptr 1 0)),(3,.c (.osl 2 3))],Pb,4⟩)]
abbrev TCl:Type:=List Innings×Int×Int×Match×Match×List Innings×Unit
def vi (x:TCl):Prop:=(x.2.1 =(x.1.length:Int)∧0≤x.2.2.1∧x.2.2.1≤x.2.1∧x.1.length≤1000000)∧gb x.1∧(x.2.2.2.2.2.1.length:Int)≤x.2.2.1
def FX (x:TCl):Nat:=(x.2.1 - x.2.2.1).toNat
def nh (x:TCl):Match×Match×List Innings×Unit:=(x.2.2.2.1,x.2.2.2.2.1,x.2.2.2.2.2.1++x.1.drop x.2.2.1.toNat,())
theorem nC {r:Rules} (h:aC r=0):1≤r.Innings∧r.Innings≤2:=by
 have hr:cq r=true:=by
  cases hr:cq r with
  | true=>rfl
  | false=>
   unfold aC at h
   cases hn:lR r.Name <;> simp [hn,hr] at h
 simp only [cq,aX,Bool.and_eq_true,decide_eq_true_eq] at hr
 omega
theorem p0 {r:Rules} (h:aC r=0):r.Power.length≤8:=by
 unfold aC at h
 cases hn:lR r.Name with
 | false=>simp [hn] at h
 | true=>
  cases hr:cq r with
  | false=>simp [hn,hr] at h
  | true=>
   cases ha:wG r with
   | true=>simp [hn,hr,ha] at h
   | false=>
    cases hc:wO r with
    | true=>simp [hn,hr,ha,hc] at h
    | false=>
     simp [hn,hr,ha,hc] at h
     unfold gw at h
     split at h
     ·cases h
     ·omega
theorem C6 (x:List Phase) (hs:x.length≤1000000) :(evFn (ao [] Tryz.f232) (fun _=>none) Tryz.f232 (bo LI (x,()))).sat fun v' rows=>leV v' (y5 (x,())).v∧rows =(y5 (x,())).rows:=by
 refine cast (by kernel_rfl) (?_ :(x.isEmpty=true→(nat_lit 0=nat_lit 0∧nat_lit 0=nat_lit 0)∧ [RowD.mk (Ty.nm Nm.Phase) []]=[RowD.mk (Ty.nm Nm.Phase) x])∧((0:Nat)+x.length) *(24:Nat)≤(70368744177664:Nat)∧(nat_lit 0=nat_lit 0∧nat_lit 0=nat_lit 0)∧ [RowD.mk (Ty.nm Nm.Phase) ([]++x)]=[RowD.mk (Ty.nm Nm.Phase) x])
 refine ⟨fun h=>⟨⟨rfl,rfl⟩,?_⟩,?_,⟨rfl,rfl⟩,rfl⟩
 ·have:x=[]:=List.isEmpty_iff.1 h
  subst this;rfl
 ·omega
theorem F6:CtrOK Tryz.prog KE 232 (ar KE LI y5):=by
 refine ba (C:=ao [] Tryz.f232) (al (CtrsOK.nil) _) mixed (fn:=Tryz.f232) Tryz.func232 (by kernel_rfl) (by kernel_rfl) (by kernel_rfl) (Λ:=fun _ _=>none) ?_ ?_ ?_
 ·exact fun _ _ _ _ _ _ _ _ h=>by cases h
 ·rintro ⟨x,⟨⟩⟩
  exact of_decide_eq_true (by kernel_rfl)
 ·rintro ⟨x,⟨⟩⟩ hw hn
  exact C6 x (hn _ (List.mem_singleton.2 rfl))
theorem Dr (r:Rules) (hs:r.Power.length≤1000000) :(evPat (ao [Ad] Tryz.f185) (fun _=>none) Tryz.f185 qRu qRu (r,())).sat fun z_=>z_ =(tL (r,())).2:=by
 refine cast (by kernel_rfl) (?_:r.14.length≤(1000000:Nat)∧(r,()) =(r,()))
 exact ⟨hs,rfl⟩
def oG:FuncId×Ctr:=(185,af KE qRu qRu tL)
theorem vQ:CtrOK Tryz.prog KE 185 (af KE qRu qRu tL):=by
 refine aw (C:=ao [Ad] Tryz.f185) (al (.consU F6 rfl .nil) _) mixed (fn:=Tryz.f185) Tryz.func185 (by kernel_rfl) (by kernel_rfl) (by kernel_rfl) (by kernel_rfl) (by kernel_rfl) (by kernel_rfl) (Λ:=fun _ _=>none) ?_ ?_
 ·exact fun _ _ _ _ _ _ _ _ h=>by cases h
 ·rintro ⟨r,⟨⟩⟩ hw hn
  exact Dr r (hn _ List.mem_cons_self)
noncomputable def lpCl:Lp:=(⟨0,ao [dx] Tryz.f235,(fun _=>none),(aH Tryz.f235 0),qCl,xCl⟩:Lp)
theorem Oz (xs:List Innings) (n:Int) (i:Int) (m:Match) (z:Match) (l:List Innings) (hi:vi (xs,n,i,m,z,l,())) :(Go.Mir.stepG lpCl nh (fun y:Den (tyP lpCl.q)=>vi y∧FX y<FX (xs,n,i,m,z,l,())) (xs,n,i,m,z,l,())∧Go.Mir.stepE lpCl nh (xs,n,i,m,z,l,())=nh (xs,n,i,m,z,l,())):=by
 refine cast (by kernel_rfl) (?_:let r1:List Innings:= [xs.getD i.toNat (dflt (Ty.nm Nm.Innings))];((decide (i<n)=true→((0:Int)≤i∧i <(↑xs.length:Int))∧ah (xs.getD i.toNat (dflt (Ty.nm Nm.Innings)))∧(l.length+r1.length) *(304:Nat)≤(70368744177664:Nat)∧vi (xs,n,IntKind.i64.wrap (i +(1:Int)),m,z,l++r1,())∧FX (xs,n,IntKind.i64.wrap (i +(1:Int)),m,z,l++r1,())<FX (xs,n,i,m,z,l,()))∧(decide (i<n)=false→True))∧(bif decide (i<n) then nh (xs,n,IntKind.i64.wrap (i +(1:Int)),m,z,l++r1,()) else (m,z,l,()))=nh (xs,n,i,m,z,l,()))
 intro r1
 clear_value (hr1:r1=_)
 obtain ⟨⟨h1,h2,h3,h4⟩,hs,h5⟩:=hi
 simp only at h1 h2 h3 h4 h5 hs
 refine ⟨⟨fun h=>?_,fun _=>trivial⟩,?_⟩
 ·have h:i<n:=of_decide_eq_true h
  rw [bb (n:=i+1) (by omega) (by omega),hr1]
  have hl:i.toNat<xs.length:=by omega
  refine ⟨⟨h2,by omega⟩,hs _ (jK hl _),?_,⟨⟨h1,by simp only;omega,by simp only;omega,h4⟩,hs,?_⟩,by simp only [FX];omega⟩
  ·simp only [List.length_singleton];omega
  ·simp only [List.length_append,List.length_singleton];omega
 ·by_cases h:i<n
  ·have e:xs.drop i.toNat=xs.getD i.toNat (dflt (Ty.nm Nm.Innings))::xs.drop (i+1).toNat:=dI h2 (by omega) _
   rw [decide_eq_true h,cond_true,bb (n:=i+1) (by omega) (by omega)]
   simp only [nh]
   rw [e,hr1,List.append_assoc,List.singleton_append]
  ·rw [decide_eq_false h,cond_false]
   simp only [nh]
   rw [cM (l:=xs) (by omega),List.append_nil]
noncomputable def Nd:LoopSum:=bh lpCl nh vi
noncomputable def MZ:Nat:=rid (aH Tryz.f235 0)
theorem NM:LoopOKp Tryz.prog 0 Tryz.f235.ntmps (aH Tryz.f235 0) (bh lpCl nh vi):=
 cj lpCl (al (.consU gC rfl .nil) _) mixed (fun b hb S hS=>by cases hS) nh vi FX (fun |⟨xs,n,i,m,z,l,⟨⟩⟩,hi=>Oz xs n i m z l hi)
theorem GI (m:Match) (hs:aQ m) :(evPat (ao [oG] Tryz.f235) (find [(MZ,Nd)]) Tryz.f235 qM qMo (m,())).sat fun z_=>z_ =(yb (m,())).2:=by
 refine cast (by kernel_rfl) (?_:m.1.14.length≤(1000000:Nat)∧((fW fun x=>none)∧((↑m.5.length:Int) =(↑m.5.length:Int)∧(0:Int)≤(0:Int)∧(0:Int)≤(↑m.5.length:Int)∧m.5.length≤(1000000:Nat))∧gb m.5∧(↑(0:Nat):Int)≤(0:Int))∧(m.1.1,m.1.2,m.1.3,m.1.4,m.1.5,m.1.6,m.1.7,m.1.8,m.1.9,m.1.10,m.1.11,m.1.12,m.1.13,m.1.14,m.2,m.3,m.4,m.6.1,m.6.2.1,m.7.1,m.7.2,m.7.3,[]++List.drop (Int.toNat (0:Int)) m.5,()) =(m.1.1,m.1.2,m.1.3,m.1.4,m.1.5,m.1.6,m.1.7,m.1.8,m.1.9,m.1.10,m.1.11,m.1.12,m.1.13,m.1.14,m.2,m.3,m.4,m.6.1,m.6.2.1,m.7.1,m.7.2,m.7.3,m.5,()))
 exact ⟨hs.2.2,⟨rfl,⟨rfl,Int.le_refl _,by omega,hs.2.1⟩,hs.1,Int.le_refl _⟩,rfl⟩
def EN:FuncId×Ctr:=(235,af KE qM qMo yb)
theorem IV:CtrOK Tryz.prog KE 235 (af KE qM qMo yb):=by
 refine aw (C:=ao [oG] Tryz.f235) (al (.consU vQ rfl .nil) _) mixed (fn:=Tryz.f235) Tryz.func235 (by kernel_rfl) (by kernel_rfl) (by kernel_rfl) (by kernel_rfl) (by kernel_rfl) (by kernel_rfl) (Λ:=fun x=>find [(MZ,Nd)]) ?_ ?_
 ·rintro ⟨m,⟨⟩⟩ hw hn
  exact LoopsOKp.at (by kernel_rfl) (.cons (by kernel_rfl) (NM) .nil)
 ·rintro ⟨m,⟨⟩⟩ hw hn
  exact GI m (hn _ List.mem_cons_self)
theorem Mk (r:Rules) :(evPat (ao [k85,oG] Tryz.f128) (fun _=>none) Tryz.f128 qRu qK (r,())).sat fun z_=>z_ =(Og (r,())).2:=by
 refine cast (by kernel_rfl) (?_:let r1:Mir.Result:=Result.mk (0:Int) (0:Int) (0:Int);((aC r !=(0:Int))=true→(Match.mk (Rules.mk ByteArray.empty (0:Int) (0:Int) (0:Int) (0:Int) (0:Int) (0:Int) (0:Int) false (0:Int) (0:Int) (0:Int) (0:Int) []) (0:Int) (0:Int) false [] ((0:Int),(0:Int),()) r1,aC r,()) =(pB r,aC r,()))∧((aC r !=(0:Int))=false→r.14.length≤(1000000:Nat)∧(Match.mk r (1:Int) (0:Int) false [] ((0:Int),(0:Int),()) r1,(0:Int),()) =(pB r,aC r,())))
 intro r1
 clear_value (hr1:r1=_)
 subst hr1
 refine ⟨fun h=>?_,fun h=>⟨?_,?_⟩⟩
 ·simp only [pB,h,if_true];rfl
 ·have:=p0 (r:=r) (by simpa using h);omega
 ·have h0:aC r=0:=by simpa using h
  simp only [pB,h0];rfl
def MM:FuncId×Ctr:=(128,af KE qRu qK Og)
theorem N5:CtrOK Tryz.prog KE 128 (af KE qRu qK Og):=by
 refine aw (C:=ao [k85,oG] Tryz.f128) (al (.consU sS rfl (.consU vQ rfl .nil)) _) mixed (fn:=Tryz.f128) Tryz.func128 (by kernel_rfl) (by kernel_rfl) (by kernel_rfl) (by kernel_rfl) (by kernel_rfl) (by kernel_rfl) (Λ:=fun _ _=>none) ?_ ?_
 ·exact fun _ _ _ _ _ _ _ _ h=>by cases h
 ·rintro ⟨r,⟨⟩⟩ hw hn
  exact Mk r
end Go.Proofs.YtffdpnmioidloaaGreatDoor
namespace Go.Proofs.YtffdpnmioidloaaGreatDoor
open Go Go.Mir
def bj (m:Match):Innings:=m.Innings.getD (m.Innings.length - 1) Innings.zero
def uj (w s k:Int):Mir.Result:={ Win:=w,Side:=s,Margin:=k }
def vc (m:Match):Bool:=(m.Innings.length:Int)==EX m
def mo (m:Match):Bool:=(m.Innings.length:Int)==3&&decide (lh m (bj m).Side<lh m (dP (bj m).Side))
def HF (m:Match) (x:Innings):Mir.Result:=
 if decide (x.Runs≥x.Target) then uj 2 x.Side (W (W (m.Rules.Side - 1) - x.Wickets))
 else if x.Runs==W (x.Target - 1) then uj 4 0 0 else uj 1 (dP x.Side) (W (W (x.Target - 1) - x.Runs))
def cG (m:Match):Mir.Result:=
 if !aW m ||(m.Innings.length:Int)==0 then Mir.Result.zero
 else if (bj m).Ending==5 then uj (dR m.Rules) 0 0
 else if (bj m).Ending==0 then Mir.Result.zero
 else if vc m then HF m (bj m)
 else if mo m then uj 3 (dP (bj m).Side) (W (lh m (dP (bj m).Side) - lh m (bj m).Side))
 else Mir.Result.zero
def MO (m:Match):Int:=W (lh m m.First - lh m (dP m.First))
def wM (m:Match):Bool:=(m.Innings.length:Int)==2&&(decide (m.Rules.FollowOn>0)&&decide (MO m≥m.Rules.FollowOn))
def tY (m:Match) (s:Int):Match:={ m with Stage:=s }
def MG (m:Match):Match:={ m with Stage:=5,Result:=cG (tY m 5) }
def ak (m:Match):Match:=
 if m.Stage != 3 ||(bj m).Ending==0 then m
 else if vc m||mo m then MG m
 else if wM m then tY m 4 else tY m 2
def gz (s:Int) (xs:List Innings):Nat→Option Nat
 | 0=>none
 | k+1=>if (xs.getD k Innings.zero).Side==s then some k else gz s xs k
def BV (m:Match) (s:Int):Match:={ m with Penalty:=if s==1 then (W (m.Penalty.1+5),m.Penalty.2.1,()) else (m.Penalty.1,W (m.Penalty.2.1+5),()) }
def tP (m:Match) (k:Nat) (x:Innings):Match:={ m with Innings:=m.Innings.set k x }
def Nq (m:Match) (s:Int):Option Nat→Match
 | some k=>tP m k (AR (m.Innings.getD k Innings.zero))
 | none=>BV m s
def aq (m:Match) (s:Int):Match:=Nq m s (gz s m.Innings m.Innings.length)
def F5 (m:Match):Nat:=m.Innings.length - 1
def cJ (m:Match) (e:Mir.Event):Int:=if m.Stage != 3 then 1 else cC m.Rules (bj m) e
def gM (m:Match) (e:Mir.Event):Match:=tP m (F5 m) (cD m.Rules (bj m) e)
def pe (m:Match) (e:Mir.Event):Bool:=e.Kind==13&&e.Side !=(cD m.Rules (bj m) e).Side
def aj (m:Match) (e:Mir.Event):Match:=if cJ m e != 0 then m else if pe m e then aq (gM m e) e.Side else gM m e
def bL (m:Match):Int:=da m m.Innings.length
def nb (m:Match) (s:Int):Int:=if s==1 then m.Penalty.1 else m.Penalty.2.1
def nw (m:Match):Int:=mR m.Rules (bL m) (fG m (bL m)) (nb m (bL m))
def ny (m:Match):Innings:=mS m.Rules (bL m) (fG m (bL m)) (nb m (bL m))
def bd (m:Match) (e:Mir.Event):Int:=if m.Stage != 2 then 1 else if nw m != 0 then 1 else cC m.Rules (ny m) e
def zk (m:Match) (s:Int):Match:={ m with Penalty:=if s==1 then (0,m.Penalty.2.1,()) else (m.Penalty.1,0,()) }
def lY (m:Match) (e:Mir.Event):Match:={ zk m (bL m) with Innings:=m.Innings++[cD m.Rules (ny m) e],Stage:=3 }
def ab (m:Match) (e:Mir.Event):Match:=if bd m e != 0 then m else lY m e
def Kk (m:Match) (e:Mir.Event):Match:={ m with First:=if e.Yes then e.Side else dP e.Side,Stage:=2 }
def Eo (m:Match) (e:Mir.Event):Match:={ m with Follow:=e.Yes,Stage:=2 }
def bq (m:Match):Match:=if m.Stage==3 then tP m (F5 m) { bj m with Ending:=5 } else m
def dq (m:Match):Match:={ bq m with Stage:=5,Result:=uj (dR m.Rules) 0 0 }
def bm (m:Match) (e:Mir.Event):Int:=
 if e.Kind==1 then (if m.Stage != 1 then 1 else 0) else if e.Kind==2 then bd m e
 else if e.Kind==12 then (if m.Stage != 4 then 1 else if e.Side != m.First then 2 else 0) else if e.Kind==16 then 0 else cJ m e
def fY (m:Match) (e:Mir.Event):Match:=
 if e.Kind==1 then Kk m e else if e.Kind==2 then ab m e else if e.Kind==12 then Eo m e else if e.Kind==16 then dq m else aj m e
def ag (m:Match) (e:Mir.Event):Match:=if bm m e != 0 then m else fY m e
def cp (m:Match) (e:Mir.Event):Int:=if !aW m||bB e != 0 then 1 else if m.Stage==5 then 26 else bm m e
def bt (m:Match) (e:Mir.Event):Match:=if cp m e != 0 then m else ak (ag m e)
theorem BM {m:Match} (h:aW m=true):aC m.Rules=0:=by
 simp only [aW,Bool.and_eq_true,beq_iff_eq] at h
 exact h.1
theorem Iu {m:Match} (h:aC m.Rules=0):EX m=2*m.Rules.Innings:=by
 have:=nC h
 unfold EX
 exact bb (by omega) (by omega)
theorem qu {m:Match} (h:aW m=true):iZ m=false:=by
 simp only [aW,Bool.and_eq_true,Bool.not_eq_true'] at h
 exact h.2.2.2.1
theorem pT {m:Match} (h:aW m=true) :(m.Innings.length:Int)≤2*m.Rules.Innings∧m.Innings.length≤4:=by
 have hc:=BM h
 have h1:=qu h
 have h2:=nC hc
 have h3:=Iu hc
 unfold EX W at h3
 simp only [iZ,Bool.or_eq_false_iff,decide_eq_false_iff_not,W,h3] at h1
 omega
theorem gg {m:Match} (h:aW m=true) (h3:m.Stage=3):0<m.Innings.length:=by
 simp only [aW,ki,Bool.and_eq_true] at h
 have h4:=h.2.2.2.2.2
 simp only [h3,Bool.or_eq_true,bne_iff_ne,ne_eq,not_true_eq_false,false_or,decide_eq_true_eq] at h4
 omega
theorem BN {m:Match} (h:aW m=true) (h2:m.Stage=2):m.First=1∨m.First=2:=by
 have h1:=qu h
 simp only [iZ,Bool.or_eq_false_iff,Bool.and_eq_false_iff,decide_eq_false_iff_not,h2] at h1
 obtain ⟨⟨⟨⟨⟨⟨q1,q2,_⟩,q3⟩,_⟩,_⟩,_⟩,_⟩:=h1
 simp at q3
 omega
theorem Hn {m:Match} (h:aW m=true) (h2:m.Stage=2):bL m=1∨bL m=2:=by
 unfold bL da dP W
 rcases BN h h2 with h|h <;> rw [h] <;> split <;> decide
theorem wv {l:List Innings} (h:gb l) (k:Nat) {y:Innings} (hy:ah y):gb (l.set k y):=fun z hz=>by
 rcases List.mem_or_eq_of_mem_set hz with h1|h1
 ·exact h z h1
 ·rw [h1];exact hy
theorem GY {l:List Innings} (h:gb l) {y:Innings} (hy:ah y):gb (l++[y]):=fun z hz=>by
 rcases List.mem_append.1 hz with h1|h1
 ·exact h z h1
 ·rw [List.mem_singleton.1 h1];exact hy
theorem D1 {x:Innings} (h:ah x):ah (AR x):=h
theorem mf {r:Rules} {x:Innings} (e:Mir.Event) (h:ah x):ah (cD r x e):=by
 cases hL:cC r x e != 0 with
 | true=>rw [oZ hL];exact h
 | false=>
  have h0:cC r x e=0:=by simpa using hL
  have hv:bP r x=true:=by
   cases hv:bP r x with
   | true=>rfl
   | false=>simp [cC,hv] at h0
  have hp:ah (nK (aA r x e) e):=tg e (ml hv)
  have:cD r x e=od r (nK (aA r x e) e):=by unfold cD;rw [hL];rfl
  rw [this]
  unfold od
  split
  ·exact hp
  ·exact hp
theorem nz (r:Rules) (s t p:Int):ah (mS r s t p):=by
 unfold mS
 split
 ·simp [ah,Innings.zero]
 ·rename_i h
  have h0:mR r s t p=0:=by simpa using h
  have hc:aC r=0:=by
   unfold mR at h0
   split at h0
   ·exact h0
   ·rename_i h1;simpa using h1
  have:=(fb hc).1
  simp only [ah,Kw,zl,Innings.zero,List.length_replicate,List.length_nil]
  omega
theorem kg {m:Match} (h:jF m):ah (bj m):=by
 unfold bj
 by_cases hl:m.Innings.length - 1<m.Innings.length
 ·exact h _ (jK hl _)
 ·rw [List.getD_eq_getElem?_getD,List.getElem?_eq_none (by omega)];simp [ah,Innings.zero]
theorem IA {xs:List Innings} (h:0<xs.length) (h2:xs.length≤1000000) :(W ((xs.length:Int) - 1)).toNat=xs.length - 1:=by
 unfold W
 rw [bb (n:=(xs.length:Int) - 1) (by omega) (by omega)]
 omega
end Go.Proofs.YtffdpnmioidloaaGreatDoor
namespace Go.Proofs.YtffdpnmioidloaaGreatDoor
open Go Go.Mir
attribute [local irreducible] Go.Mir.DT.sat Go.Mir.evPat Go.Mir.RT.sat Go.Mir.evFn
abbrev Mb:Pat:=bZ [.nm .Result]
def tI:Den (tyP qM)→List Prop×Den (tyP Mb):=fun x=>([jF x.1],(cG x.1,()))
def Qd (m:Match):Prop:=0<m.Innings.length∧m.Innings.length≤1000000
theorem Bv (m:Match) (hm:jF m) :(evPat (ao [q8,gq,hJ,mD] Tryz.f284) (fun _=>none) Tryz.f284 qM Mb (m,())).sat fun z_=>z_ =(tI (m,())).2:=by
 refine cast (by kernel_rfl) (?_:let r1:Int:=IntKind.i64.wrap ((↑m.5.length:Int) - (1:Int));let r2:Bool:=bif !aW m then true else (↑m.5.length:Int) ==(0:Int);let r3:Bool:=(↑m.5.length:Int)==IntKind.i64.wrap ((2:Int)*m.1.3);let r4:Innings:=m.5.getD r1.toNat (dflt (Ty.nm Nm.Innings));let r5:Int:=dP r4.1;let r6:Int:=lh m r4.1;let r7:Int:=lh m r5;let r8:Bool:=r4.23 ==(5:Int);let r9:Bool:=r4.23 ==(0:Int);let r10:Int:=IntKind.i64.wrap (r4.2 - (1:Int));let r11:Bool:=bif r3 then r4.4==r10 else false;let r12:Bool:=bif (↑m.5.length:Int) ==(3:Int) then decide (r6<r7) else false;let r13:Bool:=bif r3 then decide (r4.4≥r4.2) else false;(jF m∧((!aW m)=true→True)∧((!aW m)=false→True))∧(true=true→(r2=true→(Result.mk (0:Int) (0:Int) (0:Int),()) =(cG m,()))∧(r2=false→((0:Int)≤r1∧r1 <(↑m.5.length:Int))∧(r8=true→(Result.mk (dR m.1) (0:Int) (0:Int),()) =(cG m,()))∧(r8=false→(r9=true→(Result.mk (0:Int) (0:Int) (0:Int),()) =(cG m,()))∧(r9=false→(r13=true→(Result.mk (2:Int) r4.1 (IntKind.i64.wrap (IntKind.i64.wrap (m.1.2 - (1:Int)) - r4.5)),()) =(cG m,()))∧(r13=false→(r11=true→(Result.mk (4:Int) (0:Int) (0:Int),()) =(cG m,()))∧(r11=false→(r3=true→(Result.mk (1:Int) r5 (IntKind.i64.wrap (r10 - r4.4)),()) =(cG m,()))∧(r3=false→(r12=true→(Result.mk (3:Int) r5 (IntKind.i64.wrap (r7 - r6)),()) =(cG m,()))∧(r12=false→(Result.mk (0:Int) (0:Int) (0:Int),()) =(cG m,()))))))))))
 intro r1 r2 r3 r4 r5 r6 r7 r8 r9 r10 r11 r12 r13
 clear_value (hr1:r1=_) (hr2:r2=_) (hr3:r3=_) (hr4:r4=_) (hr5:r5=_) (hr6:r6=_) (hr7:r7=_) (hr8:r8=_) (hr9:r9=_) (hr10:r10=_) (hr11:r11=_) (hr12:r12=_) (hr13:r13=_)
 have ev:r2 =(!aW m ||(m.Innings.length:Int)==0):=by rw [hr2];cases aW m <;> rfl
 refine ⟨⟨hm,fun _=>trivial,fun _=>trivial⟩,fun _=>⟨fun h=>?_,fun h=>?_⟩⟩
 ·have:cG m=Mir.Result.zero:=by unfold cG;rw [←ev,h];rfl
  rw [this];rfl
 ·have hv:aW m=true∧m.Innings.length≠0:=by rw [ev] at h;simpa using h
  have h4:=(pT hv.1).2
  have e1:r1.toNat=m.Innings.length - 1:=by rw [hr1];exact IA (by omega) (by omega)
  have e0:r1 =(m.Innings.length:Int) - 1:=by rw [hr1];exact bb (by omega) (by omega)
  have e4:r4=bj m:=by rw [hr4,e1];rfl
  subst e4
  have e12:r12=mo m:=by rw [hr12,hr6,hr7,hr5];unfold mo;cases (m.Innings.length:Int)==3 <;> rfl
  have e3:r3=vc m:=hr3
  have hO:cG m=if r8 then uj (dR m.Rules) 0 0 else if r9 then Mir.Result.zero else if r3 then HF m (bj m) else if r12 then uj 3 r5 (W (r7 - r6)) else Mir.Result.zero:=by
   rw [e12,e3,hr8,hr9,hr5,hr6,hr7,hr5];unfold cG;rw [←ev,h];rfl
  have hF:HF m (bj m)=if decide ((bj m).Runs≥(bj m).Target) then uj 2 (bj m).Side (W (W (m.Rules.Side - 1) - (bj m).Wickets)) else if (bj m).Runs==r10 then uj 4 0 0 else uj 1 r5 (W (r10 - (bj m).Runs)):=by rw [hr10,hr5];rfl
  rw [hO,hF]
  clear hO hF e12 e3 hr1 hr2 hr3 hr4 hr5 hr6 hr7 hr8 hr9 hr10 hr12 ev
  refine ⟨⟨by omega,by omega⟩,fun a=>?_,fun a=>⟨fun b=>?_,fun b=>⟨fun c=>?_,fun c=>⟨fun d=>?_,fun d=>⟨fun f=>?_,fun f=>⟨fun g=>?_,fun g=>?_⟩⟩⟩⟩⟩⟩
  ·rw [a];rfl
  ·rw [a,b];rfl
  ·rw [c] at hr13
   cases r3 with
   | false=>cases hr13
   | true=>rw [a,b];simp only [cond_true] at hr13;rw [←hr13];rfl
  ·rw [c] at hr13
   rw [d] at hr11
   cases r3 with
   | false=>cases hr11
   | true=>rw [a,b];simp only [cond_true] at hr13 hr11;rw [←hr13,←hr11];rfl
  ·subst f
   rw [c] at hr13
   rw [d] at hr11
   rw [a,b];simp only [cond_true] at hr13 hr11;rw [←hr13,←hr11];rfl
  ·rw [a,b,f,g];rfl
  ·rw [a,b,f,g];rfl
def vA:FuncId×Ctr:=(284,af KE qM Mb tI)
theorem CK:CtrOK Tryz.prog KE 284 (af KE qM Mb tI):=by
 refine aw (C:=ao [q8,gq,hJ,mD] Tryz.f284) (al (.consU AI rfl (.consU lW rfl (.consU na rfl (.consU sY rfl .nil)))) _) mixed (fn:=Tryz.f284) Tryz.func284 (by kernel_rfl) (by kernel_rfl) (by kernel_rfl) (by kernel_rfl) (by kernel_rfl) (by kernel_rfl) (Λ:=fun _ _=>none) ?_ ?_
 ·exact fun _ _ _ _ _ _ _ _ h=>by cases h
 ·rintro ⟨m,⟨⟩⟩ hw hn
  exact Bv m (hn _ List.mem_cons_self)
end Go.Proofs.YtffdpnmioidloaaGreatDoor
