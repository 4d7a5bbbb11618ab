/- Texts of the mirror and contracts, put together. -/
import Derived.Test.YthaeofeigglbhaaGreatDoorPN4
import Derived.Shelf.Small.Strs
namespace Go.Proofs.YthaeofeigglbhaaGreatDoor
open Go Go.Mir
attribute [local irreducible] Go.Mir.RT.sat Go.Mir.evFn Go.Mir.stepObl
theorem Ll (n:Int) (lo:Int) (hi:Int) :(evFn (cf8 [] Tryz.f295) (fun _=>none) Tryz.f295 (bh HI (n,lo,hi,()))).sat fun v' rows=>leV v' (wX (n,lo,hi,())).v∧rows =(wX (n,lo,hi,())).rows:=by
 refine cast (by kernel_rfl) (?_ :(bif decide (n≥lo) then decide (n≤hi) else false)=aU n lo hi∧([]:List RowD)=[])
 simp only [aU];grind
theorem JH:CtrOK Tryz.prog K8 295 (ar K8 HI wX):=by
 refine aR (C:=cf8 [] Tryz.f295) (bq (CtrsOK.nil) _) mixed (fn:=Tryz.f295) Tryz.func295 (by kernel_rfl) (by kernel_rfl) (by kernel_rfl) (Λ:=fun _ _=>none) ?_ ?_ ?_
 ·exact fun _ _ _ _ _ _ _ _ h=>by cases h
 ·rintro ⟨n,lo,hi,⟨⟩⟩
  exact of_decide_eq_true (by kernel_rfl)
 ·rintro ⟨n,lo,hi,⟨⟩⟩ hw hn
  exact Ll n lo hi
theorem Lc (x:Innings) (p:Int) :(evFn (cf8 [] Tryz.f396) (fun _=>none) Tryz.f396 (bh iY (x,p,()))).sat fun v' rows=>leV v' (wP (x,p,())).v∧rows =(wP (x,p,())).rows:=by
 refine cast (by kernel_rfl) (?_ :(bif decide (p≥(1:Int)) then decide (p≤(↑x.16.length:Int)) else false)=bs x p∧([]:List RowD)=[])
 simp only [bs];grind
theorem JG:CtrOK Tryz.prog K8 396 (ar K8 iY wP):=by
 refine aR (C:=cf8 [] Tryz.f396) (bq (CtrsOK.nil) _) mixed (fn:=Tryz.f396) Tryz.func396 (by kernel_rfl) (by kernel_rfl) (by kernel_rfl) (Λ:=fun _ _=>none) ?_ ?_ ?_
 ·exact fun _ _ _ _ _ _ _ _ h=>by cases h
 ·rintro ⟨x,p,⟨⟩⟩
  exact of_decide_eq_true (by kernel_rfl)
 ·rintro ⟨x,p,⟨⟩⟩ hw hn
  exact Lc x p
theorem Lb (x:Innings) (hs:ah x) :(evFn (cf8 [k45,k90,k91] Tryz.f383) (fun _=>none) Tryz.f383 (bh psI (x,()))).sat fun v' rows=>leV v' (fT (x,())).v∧rows =(fT (x,())).rows:=by
 refine cast (by kernel_rfl) (?_:x.11.length≤(1000000:Nat)∧x.13.length≤(1000000:Nat)∧x.14.length≤(1000000:Nat)∧x.16.length≤(1000000:Nat)∧x.21.length≤(1000000:Nat)∧(x.1=x.1∧x.2=x.2∧x.3=x.3∧x.4=x.4∧x.5=x.5∧x.6.1=x.6.1∧x.6.2=x.6.2∧x.6.3=x.6.3∧x.6.4=x.6.4∧x.6.5=x.6.5∧x.7=x.7∧x.8=x.8∧x.9=x.9∧x.10=x.10∧(nat_lit 0=nat_lit 0∧nat_lit 0=nat_lit 0)∧x.12=x.12∧(nat_lit 1=nat_lit 1∧nat_lit 1=nat_lit 1)∧(nat_lit 2=nat_lit 2∧nat_lit 2=nat_lit 2)∧x.15=x.15∧(nat_lit 3=nat_lit 3∧nat_lit 3=nat_lit 3)∧x.17=x.17∧x.18=x.18∧x.19=x.19∧x.20=x.20∧(nat_lit 4=nat_lit 4∧nat_lit 4=nat_lit 4)∧x.22.1=x.22.1∧x.22.2.1=x.22.2.1∧x.23=x.23∧True)∧ [RowD.mk (Ty.int IntKind.u8) x.11,RowD.mk (Ty.int IntKind.i64) x.13,RowD.mk (Ty.int IntKind.i64) x.14,RowD.mk (Ty.int IntKind.i64) x.16,RowD.mk Ty.bool x.21]=[RowD.mk (Ty.int IntKind.u8) x.11,RowD.mk (Ty.int IntKind.i64) x.13,RowD.mk (Ty.int IntKind.i64) x.14,RowD.mk (Ty.int IntKind.i64) x.16,RowD.mk Ty.bool x.21])
 obtain ⟨h1,h2,h3,h4,h5⟩:=hs
 simp [h1,h2,h3,h4,h5]
theorem JF:CtrOK Tryz.prog K8 383 (ar K8 psI fT):=by
 refine aR (C:=cf8 [k45,k90,k91] Tryz.f383) (bq (.cons G9 (.cons Hd (.cons He .nil))) _) mixed (fn:=Tryz.f383) Tryz.func383 (by kernel_rfl) (by kernel_rfl) (by kernel_rfl) (Λ:=fun _ _=>none) ?_ ?_ ?_
 ·exact fun _ _ _ _ _ _ _ _ h=>by cases h
 ·rintro ⟨x,⟨⟩⟩
  exact of_decide_eq_true (by kernel_rfl)
 ·rintro ⟨x,⟨⟩⟩ hw hn
  exact Lb x (hn _ (List.mem_singleton.2 rfl))
theorem Lj (r:Rules) :(evFn (cf8 [k97] Tryz.f230) (fun _=>none) Tryz.f230 (bh pb (r,()))).sat fun v' rows=>leV v' (wU (r,())).v∧rows =(wU (r,())).rows:=by
 refine cast (by kernel_rfl) (?_ :(bif aU r.2 (2:Int) (11:Int) then bif aU r.3 (1:Int) (2:Int) then bif aU r.4 (0:Int) (90:Int) then bif aU r.5 (4:Int) (8:Int) then bif aU r.6 (0:Int) (90:Int) then bif aU r.7 (1:Int) (5:Int) then bif aU r.8 (1:Int) (5:Int) then bif aU r.10 (0:Int) (200:Int) then bif aU r.11 (0:Int) (1000:Int) then bif aU r.12 (0:Int) (9:Int) then aU r.13 (0:Int) (11:Int) else false else false else false else false else false else false else false else false else false else false)=cH r∧([]:List RowD)=[])
 simp only [cH,Bool.cond_false_right,and_self]
theorem LP:CtrOK Tryz.prog K8 230 (ar K8 pb wU):=by
 refine aR (C:=cf8 [k97] Tryz.f230) (bq (.cons JH .nil) _) mixed (fn:=Tryz.f230) Tryz.func230 (by kernel_rfl) (by kernel_rfl) (by kernel_rfl) (Λ:=fun _ _=>none) ?_ ?_ ?_
 ·exact fun _ _ _ _ _ _ _ _ h=>by cases h
 ·rintro ⟨r,⟨⟩⟩
  exact of_decide_eq_true (by kernel_rfl)
 ·rintro ⟨r,⟨⟩⟩ hw hn
  exact Lj r
theorem A4 (r:Rules) (i n:Nat):dF r i (n+1)=if mj r i != 0 then mj r i else dF r (i+1) n:=rfl
theorem GD {s:ByteArray} (h:wfD .str s):s.size≤aW:=by
 obtain ⟨S,w,cs,h⟩:=h
 cases h with|str h=>exact h
theorem J3 (r:Rules) (hx:r.Power.length≤aW) (i:Nat) (hi:Bv r i) :(stepObl (J94 r) (Bv r) (fun i=>r.Power.length - i) i (T94 r) (bm (cf8 [k97] Tryz.f231) (fun _=>none) (aE Tryz.f231 0) (J94 r i)) (L94 i)).1:=by
 refine cast (by kernel_rfl) (?_ :(decide ((↑i:Int) <(↑r.14.length:Int))=true→((0:Int)≤(↑i:Int)∧(↑i:Int) <(↑r.14.length:Int))∧((bif decide ((r.14.getD (↑i:Int).toNat (dflt (Ty.nm Nm.Phase))).1 <(1:Int)) then true else bif decide ((r.14.getD (↑i:Int).toNat (dflt (Ty.nm Nm.Phase))).1 >(r.14.getD (↑i:Int).toNat (dflt (Ty.nm Nm.Phase))).2) then true else bif decide ((r.14.getD (↑i:Int).toNat (dflt (Ty.nm Nm.Phase))).2>r.4) then true else !aU (r.14.getD (↑i:Int).toNat (dflt (Ty.nm Nm.Phase))).3 (0:Int) (11:Int))=true→(dF r (0:Nat) r.14.length !=(0:Int))=true∧((2:Int)=dF r (0:Nat) r.14.length∧True)∧True)∧((bif decide ((r.14.getD (↑i:Int).toNat (dflt (Ty.nm Nm.Phase))).1 <(1:Int)) then true else bif decide ((r.14.getD (↑i:Int).toNat (dflt (Ty.nm Nm.Phase))).1 >(r.14.getD (↑i:Int).toNat (dflt (Ty.nm Nm.Phase))).2) then true else bif decide ((r.14.getD (↑i:Int).toNat (dflt (Ty.nm Nm.Phase))).2>r.4) then true else !aU (r.14.getD (↑i:Int).toNat (dflt (Ty.nm Nm.Phase))).3 (0:Int) (11:Int))=false→((decide ((↑i:Int) >(0:Int))=true→((0:Int)≤IntKind.i64.wrap ((↑i:Int) - (1:Int))∧IntKind.i64.wrap ((↑i:Int) - (1:Int)) <(↑r.14.length:Int))∧True)∧(decide ((↑i:Int) >(0:Int))=false→True))∧(true=true→((bif decide ((↑i:Int) >(0:Int)) then decide ((r.14.getD (↑i:Int).toNat (dflt (Ty.nm Nm.Phase))).1≤(r.14.getD (IntKind.i64.wrap ((↑i:Int) - (1:Int))).toNat (dflt (Ty.nm Nm.Phase))).2) else false)=true→(dF r (0:Nat) r.14.length !=(0:Int))=true∧((8:Int)=dF r (0:Nat) r.14.length∧True)∧True)∧((bif decide ((↑i:Int) >(0:Int)) then decide ((r.14.getD (↑i:Int).toNat (dflt (Ty.nm Nm.Phase))).1≤(r.14.getD (IntKind.i64.wrap ((↑i:Int) - (1:Int))).toNat (dflt (Ty.nm Nm.Phase))).2) else false)=false→Bv r (i +(1:Nat))∧r.14.length - (i +(1:Nat))<r.14.length - i∧(True∧RowD.mk (Ty.nm Nm.Phase) r.14=RowD.mk (Ty.nm Nm.Phase) r.14∧(↑r.14.length:Int) =(↑r.14.length:Int)∧IntKind.i64.wrap ((↑i:Int) +(1:Int)) =(↑(i +(1:Nat)):Int)∧True)∧(r.1=r.1∧r.2=r.2∧r.3=r.3∧r.4=r.4∧r.5=r.5∧r.6=r.6∧r.7=r.7∧r.8=r.8∧r.9=r.9∧r.10=r.10∧r.11=r.11∧r.12=r.12∧r.13=r.13∧RowD.mk (Ty.nm Nm.Phase) r.14=RowD.mk (Ty.nm Nm.Phase) r.14∧True)∧True))))∧(decide ((↑i:Int) <(↑r.14.length:Int))=false→(dF r (0:Nat) r.14.length !=(0:Int))=false∧True∧True))
 have e :(i:Int).toNat=i:=by simp
 rw [e]
 have hb:r.Power.length≤140737488355328:=hx
 have hp:r.Power.getD i (dflt (Ty.nm Nm.Phase))=cE r i:=rfl
 rw [hp]
 have hpb :(bif decide ((cE r i).From<1) then true else bif decide ((cE r i).From >(cE r i).To) then true else bif decide ((cE r i).To>r.Overs) then true else !aU (cE r i).Outside 0 11)=rk r (cE r i):=by
  simp only [rk,Bool.cond_true_left]
 rw [hpb]
 obtain ⟨hi1,hi2⟩:=hi
 refine ⟨fun h1=>?_,fun h1=>?_⟩
 ·have h1:i<r.Power.length:=by simpa using h1
  have hn:r.Power.length - i =(r.Power.length - (i+1))+1:=by omega
  rw [hn,A4] at hi2
  have hw1:0<i→IntKind.i64.wrap ((i:Int) - 1) =((i - 1:Nat):Int):=fun h=>by rw [ed (by omega) (by omega)];omega
  refine ⟨⟨by omega,by omega⟩,fun h2=>?_,fun h2=>⟨⟨fun h3=>?_,fun _=>trivial⟩,fun _=>⟨fun h3=>?_,fun h3=>?_⟩⟩⟩
  ·have hE:mj r i=2:=by simp only [mj,h2];rfl
   rw [hE] at hi2
   have hi2:dF r 0 r.Power.length=2:=hi2
   rw [hi2]
   exact ⟨rfl,⟨rfl,trivial⟩,trivial⟩
  ·have h3:0<i:=by simpa using h3
   rw [hw1 h3]
   exact ⟨⟨by omega,by omega⟩,trivial⟩
  ·have h4:0<i:=by
    by_cases h4:0<i
    ·exact h4
    ·have:i=0:=by omega
     subst this
     simp at h3
   rw [hw1 h4,Int.toNat_natCast] at h3
   have hq:r.Power.getD (i - 1) (dflt (Ty.nm Nm.Phase))=cE r (i - 1):=rfl
   rw [hq] at h3
   have h5 :(decide ((i:Int)>0)&&decide ((cE r i).From≤(cE r (i - 1)).To))=true:=by rw [←h3];cases decide ((i:Int)>0) <;> rfl
   have hE:mj r i=8:=by simp only [mj,h2,h5];rfl
   rw [hE] at hi2
   have hi2:dF r 0 r.Power.length=8:=hi2
   rw [hi2]
   exact ⟨rfl,⟨rfl,trivial⟩,trivial⟩
  ·have h5 :(decide ((i:Int)>0)&&decide ((cE r i).From≤(cE r (i - 1)).To))=false:=by
    by_cases h4:0<i
    ·rw [hw1 h4,Int.toNat_natCast] at h3
     have hq:r.Power.getD (i - 1) (dflt (Ty.nm Nm.Phase))=cE r (i - 1):=rfl
     rw [hq] at h3
     rw [←h3];cases decide ((i:Int)>0) <;> rfl
    ·have:i=0:=by omega
     subst this;rfl
   have hE:mj r i=0:=by simp only [mj,h2,h5];rfl
   rw [hE] at hi2
   have hi2:dF r 0 r.Power.length=dF r (i+1) (r.Power.length - (i+1)):=hi2
   exact ⟨⟨by omega,hi2⟩,by omega,⟨trivial,rfl,rfl,by rw [ed (by omega) (by omega)];omega,trivial⟩,by simp⟩
 ·have h1:r.Power.length≤i:=by simpa using h1
  have h2:r.Power.length - i=0:=by omega
  rw [h2] at hi2
  have hi2:dF r 0 r.Power.length=0:=hi2
  rw [hi2]
  exact ⟨rfl,trivial,trivial⟩
theorem Js (r:Rules) (hx:r.Power.length≤aW):LoopOK Tryz.prog Tryz.f231.ntmps (aE Tryz.f231 0) (ck ⟨[],[],8⟩ (J94 r 0) (T94 r)):=
 il (bq (.cons JH .nil) _) mixed (J94 r) (fun _=>rfl) (Bv r) (fun i=>r.Power.length - i) (fun _ _=>none) (fun _ _ _ _ _ h=>by cases h) (T94 r) [] [] 0 (⟨Nat.zero_le _,rfl⟩) L94 (fun i hi=>J3 r hx i hi)
theorem Lk (r:Rules) (hx:r.Power.length≤aW) :(evFn (cf8 [k97] Tryz.f231) (Λ94 r) Tryz.f231 (bh pb (r,()))).sat fun v' rows=>leV v' (wV (r,())).v∧rows =(wV (r,())).rows:=by
 refine cast (by kernel_rfl) (?_ :(decide ((↑r.14.length:Int) >(8:Int))=true→(9:Int)=fC r∧([]:List RowD)=[])∧(decide ((↑r.14.length:Int) >(8:Int))=false→((fh fun x=>none)∧(True∧RowD.mk (Ty.nm Nm.Phase) r.14=RowD.mk (Ty.nm Nm.Phase) r.14∧(↑r.14.length:Int) =(↑r.14.length:Int)∧(0:Int) =(↑(0:Nat):Int)∧True)∧(r.1=r.1∧r.2=r.2∧r.3=r.3∧r.4=r.4∧r.5=r.5∧r.6=r.6∧r.7=r.7∧r.8=r.8∧r.9=r.9∧r.10=r.10∧r.11=r.11∧r.12=r.12∧r.13=r.13∧RowD.mk (Ty.nm Nm.Phase) r.14=RowD.mk (Ty.nm Nm.Phase) r.14∧True)∧True)∧((dF r (0:Nat) r.14.length !=(0:Int))=true→dF r (0:Nat) r.14.length=fC r∧([]:List RowD)=[])∧((dF r (0:Nat) r.14.length !=(0:Int))=false→(0:Int)=fC r∧([]:List RowD)=[])))
 refine ⟨fun h=>⟨?_,rfl⟩,fun h=>⟨⟨rfl,⟨trivial,rfl,rfl,rfl,trivial⟩,by simp⟩,fun h2=>⟨?_,rfl⟩,fun h2=>⟨?_,rfl⟩⟩⟩
 ·simp only [fC];rw [if_pos (of_decide_eq_true h)]
 ·simp only [fC];rw [if_neg (of_decide_eq_false h)]
 ·simp only [fC];rw [if_neg (of_decide_eq_false h)]
  have h2:dF r 0 r.Power.length=0:=by simpa using h2
  exact h2.symm
theorem LQ:CtrOK Tryz.prog K8 231 (ar K8 pb wV):=by
 refine aR (C:=cf8 [k97] Tryz.f231) (bq (.cons JH .nil) _) mixed (fn:=Tryz.f231) Tryz.func231 (by kernel_rfl) (by kernel_rfl) (by kernel_rfl) (Λ:=fun x=>Λ94 x.1) ?_ ?_ ?_
 ·rintro ⟨r,⟨⟩⟩ hw hn
  exact LoopsOK.at (by kernel_rfl) (.cons (by kernel_rfl) (Js r (nH (bo hw))) .nil)
 ·rintro ⟨r,⟨⟩⟩
  exact of_decide_eq_true (by kernel_rfl)
 ·rintro ⟨r,⟨⟩⟩ hw hn
  exact Lk r (nH (bo hw))
end Go.Proofs.YthaeofeigglbhaaGreatDoor
namespace Go.Proofs.YthaeofeigglbhaaGreatDoor
open Go Go.Mir
attribute [local irreducible] Go.Mir.RT.sat Go.Mir.evFn Go.Mir.stepObl
theorem Cx (s:ByteArray) :(aN s).length=s.size:=by
 have:s.data.size=s.size:=ByteArray.size_data
 simp [aN,this]
theorem DW (s:ByteArray) (i:Nat) (h:i<s.size) :(aN s).getD i (0:Int)=pN s i:=by
 have h1:i<s.data.size:=by rw [ByteArray.size_data];exact h
 simp [aN,pN,Array.getElem?_eq_getElem h1]
theorem J2 (s:ByteArray) (hx:s.size≤aW) (i:Nat) (hi:Bw s i) :(stepObl (J92 s) (Bw s) (fun i=>s.size - i) i (T92 s) (bm (cf8 [] Tryz.f229) (fun _=>none) (aE Tryz.f229 0) (J92 s i)) (L95 i)).1:=by
 refine cast (by kernel_rfl) (?_ :(decide ((↑i:Int) <(↑(aN s).length:Int))=true→((0:Int)≤(↑i:Int)∧(↑i:Int) <(↑(aN s).length:Int))∧((bif !bif decide ((aN s).getD (↑i:Int).toNat (dflt (Ty.int IntKind.u8))≥(65:Int)) then decide ((aN s).getD (↑i:Int).toNat (dflt (Ty.int IntKind.u8))≤(90:Int)) else false then bif (↑i:Int) ==(0:Int) then true else bif (aN s).getD (↑i:Int).toNat (dflt (Ty.int IntKind.u8)) !=(95:Int) then bif (aN s).getD (↑i:Int).toNat (dflt (Ty.int IntKind.u8)) !=(45:Int) then bif decide ((aN s).getD (↑i:Int).toNat (dflt (Ty.int IntKind.u8)) <(48:Int)) then true else decide ((aN s).getD (↑i:Int).toNat (dflt (Ty.int IntKind.u8)) >(57:Int)) else false else false else false)=true→jx s s.size=false∧(false=false∧True)∧True)∧((bif !bif decide ((aN s).getD (↑i:Int).toNat (dflt (Ty.int IntKind.u8))≥(65:Int)) then decide ((aN s).getD (↑i:Int).toNat (dflt (Ty.int IntKind.u8))≤(90:Int)) else false then bif (↑i:Int) ==(0:Int) then true else bif (aN s).getD (↑i:Int).toNat (dflt (Ty.int IntKind.u8)) !=(95:Int) then bif (aN s).getD (↑i:Int).toNat (dflt (Ty.int IntKind.u8)) !=(45:Int) then bif decide ((aN s).getD (↑i:Int).toNat (dflt (Ty.int IntKind.u8)) <(48:Int)) then true else decide ((aN s).getD (↑i:Int).toNat (dflt (Ty.int IntKind.u8)) >(57:Int)) else false else false else false)=false→Bw s (i +(1:Nat))∧s.size - (i +(1:Nat))<s.size - i∧(s=s∧True∧(↑(aN s).length:Int) =(↑(aN s).length:Int)∧IntKind.i64.wrap ((↑i:Int) +(1:Int)) =(↑(i +(1:Nat)):Int)∧True)∧RowD.mk (Ty.int IntKind.u8) (aN s)=RowD.mk (Ty.int IntKind.u8) (aN s)∧True))∧(decide ((↑i:Int) <(↑(aN s).length:Int))=false→jx s s.size=true∧(s=s∧True)∧True))
 have e :(i:Int).toNat=i:=by simp
 rw [e]
 have hb:s.size≤140737488355328:=hx
 have hlen:=Cx s
 obtain ⟨hi1,hi2⟩:=hi
 have hbad :∀ c:Int,(bif !(bif decide (c≥65) then decide (c≤90) else false) then bif (i:Int)==0 then true else bif c != 95 then bif c != 45 then bif decide (c<48) then true else decide (c>57) else false else false else false)=Bf i c:=fun c=>by
  simp only [Bf,BN,Bool.cond_true_left,Bool.cond_false_right]
 rw [hbad]
 refine ⟨fun h1=>?_,fun h1=>⟨?_,⟨rfl,trivial⟩,trivial⟩⟩
 ·have h1:i <(aN s).length:=by simpa using h1
  have hat :(aN s).getD i (dflt (Ty.int IntKind.u8))=pN s i:=DW s i (by omega)
  rw [hat]
  refine ⟨⟨by omega,by omega⟩,fun h2=>⟨?_,⟨rfl,trivial⟩,trivial⟩,fun h2=>⟨⟨by omega,?_⟩,by omega,⟨rfl,trivial,rfl,by rw [ed (by omega) (by omega)];omega,trivial⟩,rfl,trivial⟩⟩
  ·unfold jx
   rw [List.all_eq_false]
   exact ⟨i,List.mem_range.2 (by omega),by rw [h2];decide⟩
  ·unfold jx at hi2 ⊢
   rw [List.range_succ,List.all_append,hi2]
   simp [h2]
 ·have h1 :(aN s).length≤i:=by simpa using h1
  have:i=s.size:=by omega
  rw [←this];exact hi2
theorem Jr (s:ByteArray) (hx:s.size≤aW):LoopOK Tryz.prog Tryz.f229.ntmps (aE Tryz.f229 0) (ck ⟨[],[],40⟩ (J92 s 0) (T92 s)):=
 il (bq (CtrsOK.nil) _) mixed (J92 s) (fun _=>rfl) (Bw s) (fun i=>s.size - i) (fun _ _=>none) (fun _ _ _ _ _ h=>by cases h) (T92 s) [] [] 0 (⟨Nat.zero_le _,rfl⟩) L95 (fun i hi=>J2 s hx i hi)
theorem Li (s:ByteArray) (hx:s.size≤aW) :(evFn (cf8 [] Tryz.f229) (Λ92 s) Tryz.f229 (bh HN (s,()))).sat fun v' rows=>leV v' (wW (s,())).v∧rows =(wW (s,())).rows:=by
 refine cast (by kernel_rfl) (?_ :((fh fun x=>none)∧(s=s∧True∧(↑(aN s).length:Int) =(↑(aN s).length:Int)∧(0:Int) =(↑(0:Nat):Int)∧True)∧RowD.mk (Ty.int IntKind.u8) (aN s)=RowD.mk (Ty.int IntKind.u8) (aN s)∧True)∧(jx s s.size=true→(bif decide ((↑s.size:Int)≥(1:Int)) then decide ((↑s.size:Int)≤(16:Int)) else false)=mh s∧([]:List RowD)=[])∧(jx s s.size=false→false=mh s∧([]:List RowD)=[]))
 have hn:mh s =(jx s s.size&&(decide ((s.size:Int)≥1)&&decide ((s.size:Int)≤16))):=rfl
 refine ⟨⟨rfl,⟨rfl,trivial,rfl,rfl,trivial⟩,rfl,trivial⟩,fun h=>⟨?_,rfl⟩,fun h=>⟨?_,rfl⟩⟩
 ·rw [hn,h,Bool.true_and,Bool.cond_false_right]
 ·rw [hn,h,Bool.false_and]
theorem LO:CtrOK Tryz.prog K8 229 (ar K8 HN wW):=by
 refine aR (C:=cf8 [] Tryz.f229) (bq (CtrsOK.nil) _) mixed (fn:=Tryz.f229) Tryz.func229 (by kernel_rfl) (by kernel_rfl) (by kernel_rfl) (Λ:=fun x=>Λ92 x.1) ?_ ?_ ?_
 ·rintro ⟨s,⟨⟩⟩ hw hn
  exact LoopsOK.at (by kernel_rfl) (.cons (by kernel_rfl) (Jr s (GD (bo hw))) .nil)
 ·rintro ⟨s,⟨⟩⟩
  exact of_decide_eq_true (by kernel_rfl)
 ·rintro ⟨s,⟨⟩⟩ hw hn
  exact Li s (GD (bo hw))
end Go.Proofs.YthaeofeigglbhaaGreatDoor
namespace Go.Proofs.YthaeofeigglbhaaGreatDoor
open Go Go.Mir
attribute [local irreducible] Go.Mir.RT.sat Go.Mir.evFn Go.Mir.stepObl
theorem DR (r:Rules) :(bif bif r.FollowOn != 0 then r.Innings==1 else false then bif r.FollowOn != 0 then r.Innings==1 else false else bif r.Quota != 0 then r.Overs==0 else bif decide ((r.Power.length:Int)>0) then r.Overs==0 else false)=ux r:=by
 simp only [ux]
 generalize (r.FollowOn != 0)=a
 generalize (r.Innings==1)=b
 generalize (r.Quota != 0)=c
 generalize decide ((r.Power.length:Int)>0)=d
 generalize (r.Overs==0)=e
 cases a <;> cases b <;> cases c <;> cases d <;> cases e <;> rfl
theorem zm (r:Rules) :(bif r.Quota != 0 then decide (IntKind.i64.wrap (r.Quota*r.Side)<r.Overs) else false)=uE r:=by
 simp only [uE,Bool.cond_false_right]
theorem Ld (r:Rules) :(evFn (cf8 [k92,k93,k94] Tryz.f143) (fun _=>none) Tryz.f143 (bh pb (r,()))).sat fun v' rows=>leV v' (wQ (r,())).v∧rows =(wQ (r,())).rows:=by
 refine cast (by kernel_rfl) (?_ :((!mh r.1)=true→(5:Int)=az r∧([]:List RowD)=[])∧((!mh r.1)=false→((!cH r)=true→(2:Int)=az r∧([]:List RowD)=[])∧((!cH r)=false→((bif bif r.11 !=(0:Int) then r.3 ==(1:Int) else false then bif r.11 !=(0:Int) then r.3 ==(1:Int) else false else bif r.6 !=(0:Int) then r.4 ==(0:Int) else bif decide ((↑r.14.length:Int) >(0:Int)) then r.4 ==(0:Int) else false)=true→(1:Int)=az r∧([]:List RowD)=[])∧((bif bif r.11 !=(0:Int) then r.3 ==(1:Int) else false then bif r.11 !=(0:Int) then r.3 ==(1:Int) else false else bif r.6 !=(0:Int) then r.4 ==(0:Int) else bif decide ((↑r.14.length:Int) >(0:Int)) then r.4 ==(0:Int) else false)=false→((bif r.6 !=(0:Int) then decide (IntKind.i64.wrap (r.6*r.2)<r.4) else false)=true→(13:Int)=az r∧([]:List RowD)=[])∧((bif r.6 !=(0:Int) then decide (IntKind.i64.wrap (r.6*r.2)<r.4) else false)=false→fC r=az r∧([]:List RowD)=[])))))
 rw [DR,zm]
 simp only [az]
 repeat' first|refine And.intro ?_ ?_|intro _
 all_goals first|rfl |(simp_all;done)|grind
theorem vw:CtrOK Tryz.prog K8 143 (ar K8 pb wQ):=by
 refine aR (C:=cf8 [k92,k93,k94] Tryz.f143) (bq (.cons LO (.cons LP (.cons LQ .nil))) _) mixed (fn:=Tryz.f143) Tryz.func143 (by kernel_rfl) (by kernel_rfl) (by kernel_rfl) (Λ:=fun _ _=>none) ?_ ?_ ?_
 ·exact fun _ _ _ _ _ _ _ _ h=>by cases h
 ·rintro ⟨r,⟨⟩⟩
  exact of_decide_eq_true (by kernel_rfl)
 ·rintro ⟨r,⟨⟩⟩ hw hn
  exact Ld r
theorem ve {x:Innings} {p:Int} (hp:kL p) (h:bs x p=true):IntKind.i64.wrap (p - 1)=p - 1∧0≤p - 1∧p - 1 <(x.Bowled.length:Int):=by
 simp only [bs,Bool.and_eq_true,decide_eq_true_eq] at h
 have:=hp.2
 exact ⟨ed (by omega) (by omega),by omega,by omega⟩
theorem K9 (r:Rules) (x:Innings) (p:Int) (hp:kL p) :(evFn (cf8 [k84,k85] Tryz.f397) (fun _=>none) Tryz.f397 (bh jY (r,x,p,()))).sat fun v' rows=>leV v' (wN (r,x,p,())).v∧rows =(wN (r,x,p,())).rows:=by
 refine cast (by kernel_rfl) (?_ :((bif !bs x p then true else az r !=(0:Int))=true→(0:Int)=jh r x p∧([]:List RowD)=[])∧((bif !bs x p then true else az r !=(0:Int))=false→((r.6 ==(0:Int))=true→(-1:Int)=jh r x p∧([]:List RowD)=[])∧((r.6 ==(0:Int))=false→((0:Int)≤IntKind.i64.wrap (p - (1:Int))∧IntKind.i64.wrap (p - (1:Int)) <(↑x.16.length:Int))∧(if (0:Int)>IntKind.i64.wrap (IntKind.i64.wrap (r.6*r.5) - if (0:Int)>x.16.getD (IntKind.i64.wrap (p - (1:Int))).toNat (dflt (Ty.int IntKind.i64)) then (0:Int) else x.16.getD (IntKind.i64.wrap (p - (1:Int))).toNat (dflt (Ty.int IntKind.i64))) then (0:Int) else IntKind.i64.wrap (IntKind.i64.wrap (r.6*r.5) - if (0:Int)>x.16.getD (IntKind.i64.wrap (p - (1:Int))).toNat (dflt (Ty.int IntKind.i64)) then (0:Int) else x.16.getD (IntKind.i64.wrap (p - (1:Int))).toNat (dflt (Ty.int IntKind.i64))))=jh r x p∧([]:List RowD)=[])))
 have h0 :(bif !bs x p then true else az r != 0) =(!bs x p||az r != 0):=by cases bs x p <;> rfl
 rw [h0]
 refine ⟨fun h=>⟨?_,rfl⟩,fun h=>⟨fun h2=>⟨?_,rfl⟩,fun h2=>⟨?_,?_,rfl⟩⟩⟩
 ·simp only [jh,h,if_true]
 ·simp only [jh,h,h2,if_true];rfl
 ·have hk:bs x p=true:=by
   cases hk:bs x p with
   | true=>rfl
   | false=>rw [hk] at h;cases h
  obtain ⟨e,h3,h4⟩:=ve hp hk
  rw [e];exact ⟨h3,h4⟩
 ·have hk:bs x p=true:=by
   cases hk:bs x p with
   | true=>rfl
   | false=>rw [hk] at h;cases h
  obtain ⟨e,h3,h4⟩:=ve hp hk
  rw [e]
  simp only [jh,h,h2]
  rfl
theorem LL:CtrOK Tryz.prog K8 397 (ar K8 jY wN):=by
 refine aR (C:=cf8 [k84,k85] Tryz.f397) (bq (.cons JG (.cons vw .nil)) _) mixed (fn:=Tryz.f397) Tryz.func397 (by kernel_rfl) (by kernel_rfl) (by kernel_rfl) (Λ:=fun _ _=>none) ?_ ?_ ?_
 ·exact fun _ _ _ _ _ _ _ _ h=>by cases h
 ·rintro ⟨r,x,p,⟨⟩⟩
  exact of_decide_eq_true (by kernel_rfl)
 ·rintro ⟨r,x,p,⟨⟩⟩ hw hn
  exact K9 r x p (fV (bo (aY (aY hw))))
end Go.Proofs.YthaeofeigglbhaaGreatDoor
namespace Go.Proofs.YthaeofeigglbhaaGreatDoor
open Go Go.Mir
attribute [local irreducible] Go.Mir.RT.sat Go.Mir.evFn Go.Mir.stepObl
theorem La (r:Rules) (x:Innings) (p:Int) (hp:kL p) :(evFn (cf8 [k47,k81,k84,k85] Tryz.f384) (fun _=>none) Tryz.f384 (bh jY (r,x,p,()))).sat fun v' rows=>leV v' (wO (r,x,p,())).v∧rows =(wO (r,x,p,())).rows:=by
 refine cast (by kernel_rfl) (?_ :((bif !bs x p then true else az r !=(0:Int))=true→(3:Int)=cI r x p∧([]:List RowD)=[])∧((bif !bs x p then true else az r !=(0:Int))=false→((decide (p≤(↑x.21.length:Int))=true→((0:Int)≤IntKind.i64.wrap (p - (1:Int))∧IntKind.i64.wrap (p - (1:Int)) <(↑x.21.length:Int))∧True)∧(decide (p≤(↑x.21.length:Int))=false→True))∧(true=true→((bif p==x.19 then true else bif p==x.12 then true else bif decide (p≤(↑x.21.length:Int)) then x.21.getD (IntKind.i64.wrap (p - (1:Int))).toNat (dflt Ty.bool) else false)=true→(7:Int)=cI r x p∧([]:List RowD)=[])∧((bif p==x.19 then true else bif p==x.12 then true else bif decide (p≤(↑x.21.length:Int)) then x.21.getD (IntKind.i64.wrap (p - (1:Int))).toNat (dflt Ty.bool) else false)=false→(e9 x.14 p=true→(8:Int)=cI r x p∧([]:List RowD)=[])∧(e9 x.14 p=false→((bif jh r x p !=(-1:Int) then decide (x.8<IntKind.i64.wrap (r.5 - jh r x p)) else false)=true→(9:Int)=cI r x p∧([]:List RowD)=[])∧((bif jh r x p !=(-1:Int) then decide (x.8<IntKind.i64.wrap (r.5 - jh r x p)) else false)=false→(0:Int)=cI r x p∧([]:List RowD)=[]))))))
 have h0 :(bif !bs x p then true else az r != 0) =(!bs x p||az r != 0):=by cases bs x p <;> rfl
 rw [h0]
 refine ⟨fun h=>⟨?_,rfl⟩,fun h=>?_⟩
 ·simp only [cI,h,if_true]
 ·have hk:bs x p=true:=by
   cases hk:bs x p with
   | true=>rfl
   | false=>rw [hk] at h;cases h
  have hp1:p≥1:=by
   simp only [bs,Bool.and_eq_true,decide_eq_true_eq] at hk
   exact hk.1
  have hw:IntKind.i64.wrap (p - 1)=p - 1:=by have:=hp.2;exact ed (by omega) (by omega)
  rw [hw]
  have hrep :(bif decide (p≤(x.Subs.length:Int)) then x.Subs.getD (p - 1).toNat (dflt Ty.bool) else false)=aO x p:=by
   simp only [aO,bg,decide_eq_true hp1,Bool.true_and]
   cases decide (p≤(x.Subs.length:Int)) <;> rfl
  rw [hrep]
  have hq :(bif p==x.Keeper then true else bif p==x.Bowler then true else aO x p) =(p==x.Keeper ||(p==x.Bowler||aO x p)):=by simp only [Bool.cond_true_left]
  rw [hq,Bool.cond_false_right]
  refine ⟨⟨fun h1=>⟨?_,trivial⟩,fun _=>trivial⟩,fun _=>⟨fun h1=>⟨?_,rfl⟩,fun h1=>⟨fun h2=>⟨?_,rfl⟩,fun h2=>⟨fun h3=>⟨?_,rfl⟩,fun h3=>⟨?_,rfl⟩⟩⟩⟩⟩
  ·have h1:p≤(x.Subs.length:Int):=of_decide_eq_true h1
   exact ⟨by omega,by omega⟩
  ·simp only [cI,h,h1];rfl
  ·simp only [cI,h,h1,h2];rfl
  ·simp only [cI,h,h1,h2,h3];rfl
  ·simp only [cI,h,h1,h2,h3];rfl
theorem LM:CtrOK Tryz.prog K8 384 (ar K8 jY wO):=by
 refine aR (C:=cf8 [k47,k81,k84,k85] Tryz.f384) (bq (.cons Ha (.cons LL (.cons JG (.cons vw .nil)))) _) mixed (fn:=Tryz.f384) Tryz.func384 (by kernel_rfl) (by kernel_rfl) (by kernel_rfl) (Λ:=fun _ _=>none) ?_ ?_ ?_
 ·exact fun _ _ _ _ _ _ _ _ h=>by cases h
 ·rintro ⟨r,x,p,⟨⟩⟩
  exact of_decide_eq_true (by kernel_rfl)
 ·rintro ⟨r,x,p,⟨⟩⟩ hw hn
  exact La r x p (fV (bo (aY (aY hw))))
theorem KT (r:Rules) (x:Innings) (p:Int) (hs:ah x) :(evFn (cf8 [k82,k83] Tryz.f360) (fun _=>none) Tryz.f360 (bh jY (r,x,p,()))).sat fun v' rows=>leV v' (wz (r,x,p,())).v∧rows =(wz (r,x,p,())).rows:=by
 refine cast (by kernel_rfl) (?_:ah x∧(((bif cI r x p ==(0:Int) then x.1 else x.1) =(bE r x p).1∧(bif cI r x p ==(0:Int) then x.2 else x.2) =(bE r x p).2∧(bif cI r x p ==(0:Int) then x.3 else x.3) =(bE r x p).3∧(bif cI r x p ==(0:Int) then x.4 else x.4) =(bE r x p).4∧(bif cI r x p ==(0:Int) then x.5 else x.5) =(bE r x p).5∧(bif cI r x p ==(0:Int) then x.6.1 else x.6.1) =(bE r x p).6.1∧(bif cI r x p ==(0:Int) then x.6.2 else x.6.2) =(bE r x p).6.2∧(bif cI r x p ==(0:Int) then x.6.3 else x.6.3) =(bE r x p).6.3∧(bif cI r x p ==(0:Int) then x.6.4 else x.6.4) =(bE r x p).6.4∧(bif cI r x p ==(0:Int) then x.6.5 else x.6.5) =(bE r x p).6.5∧(bif cI r x p ==(0:Int) then x.7 else x.7) =(bE r x p).7∧(bif cI r x p ==(0:Int) then x.8 else x.8) =(bE r x p).8∧(bif cI r x p ==(0:Int) then x.9 else x.9) =(bE r x p).9∧(bif cI r x p ==(0:Int) then x.10 else x.10) =(bE r x p).10∧(nat_lit 0=nat_lit 0∧nat_lit 0=nat_lit 0)∧(bif cI r x p ==(0:Int) then p else x.12) =(bE r x p).12∧(nat_lit 1=nat_lit 1∧nat_lit 1=nat_lit 1)∧(nat_lit 2=nat_lit 2∧nat_lit 2=nat_lit 2)∧(bif cI r x p ==(0:Int) then x.15 else x.15) =(bE r x p).15∧(nat_lit 3=nat_lit 3∧nat_lit 3=nat_lit 3)∧(bif cI r x p ==(0:Int) then x.17 else x.17) =(bE r x p).17∧(bif cI r x p ==(0:Int) then x.18 else x.18) =(bE r x p).18∧(bif cI r x p ==(0:Int) then x.19 else x.19) =(bE r x p).19∧(bif cI r x p ==(0:Int) then x.20 else x.20) =(bE r x p).20∧(nat_lit 4=nat_lit 4∧nat_lit 4=nat_lit 4)∧(bif cI r x p ==(0:Int) then x.22.1 else x.22.1) =(bE r x p).22.1∧(bif cI r x p ==(0:Int) then x.22.2.1 else x.22.2.1) =(bE r x p).22.2.1∧(bif cI r x p ==(0:Int) then x.23 else x.23) =(bE r x p).23∧True)∧cI r x p=cI r x p∧True)∧ [RowD.mk (Ty.int IntKind.u8) x.11,RowD.mk (Ty.int IntKind.i64) x.13,RowD.mk (Ty.int IntKind.i64) x.14,RowD.mk (Ty.int IntKind.i64) x.16,RowD.mk Ty.bool x.21]=[RowD.mk (Ty.int IntKind.u8) (bE r x p).11,RowD.mk (Ty.int IntKind.i64) (bE r x p).13,RowD.mk (Ty.int IntKind.i64) (bE r x p).14,RowD.mk (Ty.int IntKind.i64) (bE r x p).16,RowD.mk Ty.bool (bE r x p).21])
 refine ⟨hs,?_⟩
 cases hm :(cI r x p==0) with
 | false=>
  have e:bE r x p=x:=by simp only [bE,hm];rfl
  rw [e];simp
 | true=>
  have e:bE r x p={ x with Bowler:=p }:=by simp only [bE,hm];rfl
  rw [e];simp
theorem LA:CtrOK Tryz.prog K8 360 (ar K8 jY wz):=by
 refine aR (C:=cf8 [k82,k83] Tryz.f360) (bq (.cons LM (.cons JF .nil)) _) mixed (fn:=Tryz.f360) Tryz.func360 (by kernel_rfl) (by kernel_rfl) (by kernel_rfl) (Λ:=fun _ _=>none) ?_ ?_ ?_
 ·exact fun _ _ _ _ _ _ _ _ h=>by cases h
 ·rintro ⟨r,x,p,⟨⟩⟩
  exact of_decide_eq_true (by kernel_rfl)
 ·rintro ⟨r,x,p,⟨⟩⟩ hw hn
  exact KT r x p (hn _ (List.mem_singleton.2 rfl))
theorem KV (r:Rules) (x:Innings) (hs:ah x) :(evFn (cf8 [k83,k85] Tryz.f368) (fun _=>none) Tryz.f368 (bh yq (r,x,()))).sat fun v' rows=>leV v' (wB (r,x,())).v∧rows =(wB (r,x,())).rows:=by
 refine cast (by kernel_rfl) (?_:ah x∧((bif az r !=(0:Int) then true else bif r.10 ==(0:Int) then true else decide (x.18<IntKind.i64.wrap (r.10*r.5)))=true→((x.1 =(bk r x).1∧x.2 =(bk r x).2∧x.3 =(bk r x).3∧x.4 =(bk r x).4∧x.5 =(bk r x).5∧x.6.1 =(bk r x).6.1∧x.6.2 =(bk r x).6.2∧x.6.3 =(bk r x).6.3∧x.6.4 =(bk r x).6.4∧x.6.5 =(bk r x).6.5∧x.7 =(bk r x).7∧x.8 =(bk r x).8∧x.9 =(bk r x).9∧x.10 =(bk r x).10∧(nat_lit 0=nat_lit 0∧nat_lit 0=nat_lit 0)∧x.12 =(bk r x).12∧(nat_lit 1=nat_lit 1∧nat_lit 1=nat_lit 1)∧(nat_lit 2=nat_lit 2∧nat_lit 2=nat_lit 2)∧x.15 =(bk r x).15∧(nat_lit 3=nat_lit 3∧nat_lit 3=nat_lit 3)∧x.17 =(bk r x).17∧x.18 =(bk r x).18∧x.19 =(bk r x).19∧x.20 =(bk r x).20∧(nat_lit 4=nat_lit 4∧nat_lit 4=nat_lit 4)∧x.22.1 =(bk r x).22.1∧x.22.2.1 =(bk r x).22.2.1∧x.23 =(bk r x).23∧True)∧(22:Int)=vr r x∧True)∧ [RowD.mk (Ty.int IntKind.u8) x.11,RowD.mk (Ty.int IntKind.i64) x.13,RowD.mk (Ty.int IntKind.i64) x.14,RowD.mk (Ty.int IntKind.i64) x.16,RowD.mk Ty.bool x.21]=[RowD.mk (Ty.int IntKind.u8) (bk r x).11,RowD.mk (Ty.int IntKind.i64) (bk r x).13,RowD.mk (Ty.int IntKind.i64) (bk r x).14,RowD.mk (Ty.int IntKind.i64) (bk r x).16,RowD.mk Ty.bool (bk r x).21])∧((bif az r !=(0:Int) then true else bif r.10 ==(0:Int) then true else decide (x.18<IntKind.i64.wrap (r.10*r.5)))=false→((x.1 =(bk r x).1∧x.2 =(bk r x).2∧x.3 =(bk r x).3∧x.4 =(bk r x).4∧x.5 =(bk r x).5∧x.6.1 =(bk r x).6.1∧x.6.2 =(bk r x).6.2∧x.6.3 =(bk r x).6.3∧x.6.4 =(bk r x).6.4∧x.6.5 =(bk r x).6.5∧x.7 =(bk r x).7∧x.8 =(bk r x).8∧x.9 =(bk r x).9∧x.10 =(bk r x).10∧(nat_lit 0=nat_lit 0∧nat_lit 0=nat_lit 0)∧x.12 =(bk r x).12∧(nat_lit 1=nat_lit 1∧nat_lit 1=nat_lit 1)∧(nat_lit 2=nat_lit 2∧nat_lit 2=nat_lit 2)∧x.15 =(bk r x).15∧(nat_lit 3=nat_lit 3∧nat_lit 3=nat_lit 3)∧x.17 =(bk r x).17∧(0:Int) =(bk r x).18∧x.19 =(bk r x).19∧x.20 =(bk r x).20∧(nat_lit 4=nat_lit 4∧nat_lit 4=nat_lit 4)∧x.22.1 =(bk r x).22.1∧x.22.2.1 =(bk r x).22.2.1∧x.23 =(bk r x).23∧True)∧(0:Int)=vr r x∧True)∧ [RowD.mk (Ty.int IntKind.u8) x.11,RowD.mk (Ty.int IntKind.i64) x.13,RowD.mk (Ty.int IntKind.i64) x.14,RowD.mk (Ty.int IntKind.i64) x.16,RowD.mk Ty.bool x.21]=[RowD.mk (Ty.int IntKind.u8) (bk r x).11,RowD.mk (Ty.int IntKind.i64) (bk r x).13,RowD.mk (Ty.int IntKind.i64) (bk r x).14,RowD.mk (Ty.int IntKind.i64) (bk r x).16,RowD.mk Ty.bool (bk r x).21]))
 have hc :(bif az r != 0 then true else bif r.NewBall==0 then true else decide (x.BallAge<IntKind.i64.wrap (r.NewBall*r.Balls)))=BU r x:=by simp only [BU,Bool.cond_true_left]
 rw [hc]
 refine ⟨hs,fun h=>?_,fun h=>?_⟩
 ·have e:bk r x=x:=by simp only [bk,h];rfl
  have l:vr r x=22:=by simp only [vr,h];rfl
  rw [e,l];simp
 ·have e:bk r x={ x with BallAge:=0 }:=by simp only [bk,h];rfl
  have l:vr r x=0:=by simp only [vr,h];rfl
  rw [e,l];simp
theorem LC:CtrOK Tryz.prog K8 368 (ar K8 yq wB):=by
 refine aR (C:=cf8 [k83,k85] Tryz.f368) (bq (.cons JF (.cons vw .nil)) _) mixed (fn:=Tryz.f368) Tryz.func368 (by kernel_rfl) (by kernel_rfl) (by kernel_rfl) (Λ:=fun _ _=>none) ?_ ?_ ?_
 ·exact fun _ _ _ _ _ _ _ _ h=>by cases h
 ·rintro ⟨r,x,⟨⟩⟩
  exact of_decide_eq_true (by kernel_rfl)
 ·rintro ⟨r,x,⟨⟩⟩ hw hn
  exact KV r x (hn _ (List.mem_singleton.2 rfl))
theorem DL {x:Innings} (h:wfD (.nm .Innings) x):kL x.Bowler:=
 fV (bo (aY (aY (aY (aY (aY (aY (aY (aY (aY (aY (aY (GC h)))))))))))))
theorem xk (x:Innings) (c:Bool) :(cS x c).InOver =(bif c then IntKind.i64.wrap (x.InOver+1) else x.InOver):=by cases c <;> rfl
theorem Bg {r:Rules} {x:Innings} (c:Bool) (h:jF r x=true):ao r x c=x∧hJ r x c=false:=by
 unfold ao hJ
 rw [if_pos h,if_pos h]
 exact ⟨rfl,rfl⟩
theorem pg {r:Rules} {x:Innings} {c:Bool} (h:jF r x=false) (h2:decide ((bif c then IntKind.i64.wrap (x.InOver+1) else x.InOver)<r.Balls)=true):ao r x c=cS x c∧hJ r x c=false:=by
 have h3 :(cS x c).InOver<r.Balls:=by rw [xk];exact of_decide_eq_true h2
 unfold ao hJ
 simp only [h,h3,if_true,Bool.false_eq_true,if_false,and_self]
theorem lA {r:Rules} {x:Innings} {c:Bool} (h:jF r x=false) (h2:decide ((bif c then IntKind.i64.wrap (x.InOver+1) else x.InOver)<r.Balls)=false):ao r x c=yf (cS x c)∧hJ r x c=true:=by
 have h3 :¬(cS x c).InOver<r.Balls:=by rw [xk];exact of_decide_eq_false h2
 unfold ao hJ
 simp only [h,h3,Bool.false_eq_true,if_false,and_self]
theorem KU (r:Rules) (x:Innings) (c:Bool) (hs:ah x) (hb:kL x.Bowler) :(evFn (cf8 [k47,k83,k84,k85] Tryz.f387) (fun _=>none) Tryz.f387 (bh B9 (r,x,c,()))).sat fun v' rows=>leV v' (wA (r,x,c,())).v∧rows =(wA (r,x,c,())).rows:=by
 refine cast (by kernel_rfl) (?_:ah x∧((bif !bs x x.12 then true else az r !=(0:Int))=true→((x.1 =(ao r x c).1∧x.2 =(ao r x c).2∧x.3 =(ao r x c).3∧x.4 =(ao r x c).4∧x.5 =(ao r x c).5∧x.6.1 =(ao r x c).6.1∧x.6.2 =(ao r x c).6.2∧x.6.3 =(ao r x c).6.3∧x.6.4 =(ao r x c).6.4∧x.6.5 =(ao r x c).6.5∧x.7 =(ao r x c).7∧x.8 =(ao r x c).8∧x.9 =(ao r x c).9∧x.10 =(ao r x c).10∧(nat_lit 0=nat_lit 0∧nat_lit 0=nat_lit 0)∧x.12 =(ao r x c).12∧(nat_lit 1=nat_lit 1∧nat_lit 1=nat_lit 1)∧(nat_lit 2=nat_lit 2∧nat_lit 2=nat_lit 2)∧x.15 =(ao r x c).15∧(nat_lit 3=nat_lit 3∧nat_lit 3=nat_lit 3)∧x.17 =(ao r x c).17∧x.18 =(ao r x c).18∧x.19 =(ao r x c).19∧x.20 =(ao r x c).20∧(nat_lit 4=nat_lit 4∧nat_lit 4=nat_lit 4)∧x.22.1 =(ao r x c).22.1∧x.22.2.1 =(ao r x c).22.2.1∧x.23 =(ao r x c).23∧True)∧false=hJ r x c∧True)∧ [RowD.mk (Ty.int IntKind.u8) x.11,RowD.mk (Ty.int IntKind.i64) x.13,RowD.mk (Ty.int IntKind.i64) x.14,RowD.mk (Ty.int IntKind.i64) x.16,RowD.mk Ty.bool x.21]=[RowD.mk (Ty.int IntKind.u8) (ao r x c).11,RowD.mk (Ty.int IntKind.i64) (ao r x c).13,RowD.mk (Ty.int IntKind.i64) (ao r x c).14,RowD.mk (Ty.int IntKind.i64) (ao r x c).16,RowD.mk Ty.bool (ao r x c).21])∧((bif !bs x x.12 then true else az r !=(0:Int))=false→((!e9 x.13 x.12)=true→(x.13.length+[x.12].length) *(8:Nat)≤(70368744177664:Nat)∧((c=true→((0:Int)≤IntKind.i64.wrap (x.12 - (1:Int))∧IntKind.i64.wrap (x.12 - (1:Int)) <(↑x.16.length:Int))∧((0:Int)≤IntKind.i64.wrap (x.12 - (1:Int))∧IntKind.i64.wrap (x.12 - (1:Int)) <(↑x.16.length:Int))∧True)∧(c=false→True))∧(true=true→(decide ((bif c then IntKind.i64.wrap (x.8 +(1:Int)) else x.8)<r.5)=true→(((bif c then x.1 else x.1) =(ao r x c).1∧(bif c then x.2 else x.2) =(ao r x c).2∧(bif c then x.3 else x.3) =(ao r x c).3∧(bif c then x.4 else x.4) =(ao r x c).4∧(bif c then x.5 else x.5) =(ao r x c).5∧(bif c then x.6.1 else x.6.1) =(ao r x c).6.1∧(bif c then x.6.2 else x.6.2) =(ao r x c).6.2∧(bif c then x.6.3 else x.6.3) =(ao r x c).6.3∧(bif c then x.6.4 else x.6.4) =(ao r x c).6.4∧(bif c then x.6.5 else x.6.5) =(ao r x c).6.5∧(bif c then x.7 else x.7) =(ao r x c).7∧(bif c then IntKind.i64.wrap (x.8 +(1:Int)) else x.8) =(ao r x c).8∧(bif c then x.9 else x.9) =(ao r x c).9∧(bif c then x.10 else x.10) =(ao r x c).10∧(nat_lit 0=nat_lit 0∧nat_lit 0=nat_lit 0)∧(bif c then x.12 else x.12) =(ao r x c).12∧(nat_lit 1=nat_lit 1∧nat_lit 1=nat_lit 1)∧(nat_lit 2=nat_lit 2∧nat_lit 2=nat_lit 2)∧(bif c then x.15 else x.15) =(ao r x c).15∧(nat_lit 3=nat_lit 3∧nat_lit 3=nat_lit 3)∧(bif c then x.17 else x.17) =(ao r x c).17∧(bif c then IntKind.i64.wrap (x.18 +(1:Int)) else x.18) =(ao r x c).18∧(bif c then x.19 else x.19) =(ao r x c).19∧(bif c then x.20 else x.20) =(ao r x c).20∧(nat_lit 4=nat_lit 4∧nat_lit 4=nat_lit 4)∧(bif c then x.22.1 else x.22.1) =(ao r x c).22.1∧(bif c then x.22.2.1 else x.22.2.1) =(ao r x c).22.2.1∧(bif c then x.23 else x.23) =(ao r x c).23∧True)∧false=hJ r x c∧True)∧ [RowD.mk (Ty.int IntKind.u8) x.11,RowD.mk (Ty.int IntKind.i64) (x.13++[x.12]),RowD.mk (Ty.int IntKind.i64) x.14,RowD.mk (Ty.int IntKind.i64) (bif c then x.16.set (IntKind.i64.wrap (x.12 - (1:Int))).toNat (IntKind.i64.wrap (x.16.getD (IntKind.i64.wrap (x.12 - (1:Int))).toNat (dflt (Ty.int IntKind.i64)) +(1:Int))) else x.16),RowD.mk Ty.bool x.21]=[RowD.mk (Ty.int IntKind.u8) (ao r x c).11,RowD.mk (Ty.int IntKind.i64) (ao r x c).13,RowD.mk (Ty.int IntKind.i64) (ao r x c).14,RowD.mk (Ty.int IntKind.i64) (ao r x c).16,RowD.mk Ty.bool (ao r x c).21])∧(decide ((bif c then IntKind.i64.wrap (x.8 +(1:Int)) else x.8)<r.5)=false→(((bif c then x.1 else x.1) =(ao r x c).1∧(bif c then x.2 else x.2) =(ao r x c).2∧(bif c then x.3 else x.3) =(ao r x c).3∧(bif c then x.4 else x.4) =(ao r x c).4∧(bif c then x.5 else x.5) =(ao r x c).5∧(bif c then x.6.1 else x.6.1) =(ao r x c).6.1∧(bif c then x.6.2 else x.6.2) =(ao r x c).6.2∧(bif c then x.6.3 else x.6.3) =(ao r x c).6.3∧(bif c then x.6.4 else x.6.4) =(ao r x c).6.4∧(bif c then x.6.5 else x.6.5) =(ao r x c).6.5∧IntKind.i64.wrap ((bif c then x.7 else x.7) +(1:Int)) =(ao r x c).7∧(0:Int) =(ao r x c).8∧(bif c then x.9 else x.9) =(ao r x c).9∧(bif c then x.10 else x.10) =(ao r x c).10∧(nat_lit 0=nat_lit 0∧nat_lit 0=nat_lit 0)∧(0:Int) =(ao r x c).12∧(nat_lit 1=nat_lit 1∧nat_lit 1=nat_lit 1)∧(nat_lit 2=nat_lit 2∧nat_lit 2=nat_lit 2)∧(bif c then x.15 else x.15) =(ao r x c).15∧(nat_lit 3=nat_lit 3∧nat_lit 3=nat_lit 3)∧(bif c then x.17 else x.17) =(ao r x c).17∧(bif c then IntKind.i64.wrap (x.18 +(1:Int)) else x.18) =(ao r x c).18∧(bif c then x.19 else x.19) =(ao r x c).19∧(bif c then x.20 else x.20) =(ao r x c).20∧(nat_lit 4=nat_lit 4∧nat_lit 4=nat_lit 4)∧(bif c then x.22.1 else x.22.1) =(ao r x c).22.1∧(bif c then x.22.2.1 else x.22.2.1) =(ao r x c).22.2.1∧(bif c then x.23 else x.23) =(ao r x c).23∧True)∧true=hJ r x c∧True)∧ [RowD.mk (Ty.int IntKind.u8) x.11,RowD.mk (Ty.int IntKind.i64) [],RowD.mk (Ty.int IntKind.i64) (x.13++[x.12]),RowD.mk (Ty.int IntKind.i64) (bif c then x.16.set (IntKind.i64.wrap (x.12 - (1:Int))).toNat (IntKind.i64.wrap (x.16.getD (IntKind.i64.wrap (x.12 - (1:Int))).toNat (dflt (Ty.int IntKind.i64)) +(1:Int))) else x.16),RowD.mk Ty.bool x.21]=[RowD.mk (Ty.int IntKind.u8) (ao r x c).11,RowD.mk (Ty.int IntKind.i64) (ao r x c).13,RowD.mk (Ty.int IntKind.i64) (ao r x c).14,RowD.mk (Ty.int IntKind.i64) (ao r x c).16,RowD.mk Ty.bool (ao r x c).21])))∧((!e9 x.13 x.12)=false→((c=true→((0:Int)≤IntKind.i64.wrap (x.12 - (1:Int))∧IntKind.i64.wrap (x.12 - (1:Int)) <(↑x.16.length:Int))∧((0:Int)≤IntKind.i64.wrap (x.12 - (1:Int))∧IntKind.i64.wrap (x.12 - (1:Int)) <(↑x.16.length:Int))∧True)∧(c=false→True))∧(true=true→(decide ((bif c then IntKind.i64.wrap (x.8 +(1:Int)) else x.8)<r.5)=true→(((bif c then x.1 else x.1) =(ao r x c).1∧(bif c then x.2 else x.2) =(ao r x c).2∧(bif c then x.3 else x.3) =(ao r x c).3∧(bif c then x.4 else x.4) =(ao r x c).4∧(bif c then x.5 else x.5) =(ao r x c).5∧(bif c then x.6.1 else x.6.1) =(ao r x c).6.1∧(bif c then x.6.2 else x.6.2) =(ao r x c).6.2∧(bif c then x.6.3 else x.6.3) =(ao r x c).6.3∧(bif c then x.6.4 else x.6.4) =(ao r x c).6.4∧(bif c then x.6.5 else x.6.5) =(ao r x c).6.5∧(bif c then x.7 else x.7) =(ao r x c).7∧(bif c then IntKind.i64.wrap (x.8 +(1:Int)) else x.8) =(ao r x c).8∧(bif c then x.9 else x.9) =(ao r x c).9∧(bif c then x.10 else x.10) =(ao r x c).10∧(nat_lit 0=nat_lit 0∧nat_lit 0=nat_lit 0)∧(bif c then x.12 else x.12) =(ao r x c).12∧(nat_lit 1=nat_lit 1∧nat_lit 1=nat_lit 1)∧(nat_lit 2=nat_lit 2∧nat_lit 2=nat_lit 2)∧(bif c then x.15 else x.15) =(ao r x c).15∧(nat_lit 3=nat_lit 3∧nat_lit 3=nat_lit 3)∧(bif c then x.17 else x.17) =(ao r x c).17∧(bif c then IntKind.i64.wrap (x.18 +(1:Int)) else x.18) =(ao r x c).18∧(bif c then x.19 else x.19) =(ao r x c).19∧(bif c then x.20 else x.20) =(ao r x c).20∧(nat_lit 4=nat_lit 4∧nat_lit 4=nat_lit 4)∧(bif c then x.22.1 else x.22.1) =(ao r x c).22.1∧(bif c then x.22.2.1 else x.22.2.1) =(ao r x c).22.2.1∧(bif c then x.23 else x.23) =(ao r x c).23∧True)∧false=hJ r x c∧True)∧ [RowD.mk (Ty.int IntKind.u8) x.11,RowD.mk (Ty.int IntKind.i64) x.13,RowD.mk (Ty.int IntKind.i64) x.14,RowD.mk (Ty.int IntKind.i64) (bif c then x.16.set (IntKind.i64.wrap (x.12 - (1:Int))).toNat (IntKind.i64.wrap (x.16.getD (IntKind.i64.wrap (x.12 - (1:Int))).toNat (dflt (Ty.int IntKind.i64)) +(1:Int))) else x.16),RowD.mk Ty.bool x.21]=[RowD.mk (Ty.int IntKind.u8) (ao r x c).11,RowD.mk (Ty.int IntKind.i64) (ao r x c).13,RowD.mk (Ty.int IntKind.i64) (ao r x c).14,RowD.mk (Ty.int IntKind.i64) (ao r x c).16,RowD.mk Ty.bool (ao r x c).21])∧(decide ((bif c then IntKind.i64.wrap (x.8 +(1:Int)) else x.8)<r.5)=false→(((bif c then x.1 else x.1) =(ao r x c).1∧(bif c then x.2 else x.2) =(ao r x c).2∧(bif c then x.3 else x.3) =(ao r x c).3∧(bif c then x.4 else x.4) =(ao r x c).4∧(bif c then x.5 else x.5) =(ao r x c).5∧(bif c then x.6.1 else x.6.1) =(ao r x c).6.1∧(bif c then x.6.2 else x.6.2) =(ao r x c).6.2∧(bif c then x.6.3 else x.6.3) =(ao r x c).6.3∧(bif c then x.6.4 else x.6.4) =(ao r x c).6.4∧(bif c then x.6.5 else x.6.5) =(ao r x c).6.5∧IntKind.i64.wrap ((bif c then x.7 else x.7) +(1:Int)) =(ao r x c).7∧(0:Int) =(ao r x c).8∧(bif c then x.9 else x.9) =(ao r x c).9∧(bif c then x.10 else x.10) =(ao r x c).10∧(nat_lit 0=nat_lit 0∧nat_lit 0=nat_lit 0)∧(0:Int) =(ao r x c).12∧(nat_lit 1=nat_lit 1∧nat_lit 1=nat_lit 1)∧(nat_lit 2=nat_lit 2∧nat_lit 2=nat_lit 2)∧(bif c then x.15 else x.15) =(ao r x c).15∧(nat_lit 3=nat_lit 3∧nat_lit 3=nat_lit 3)∧(bif c then x.17 else x.17) =(ao r x c).17∧(bif c then IntKind.i64.wrap (x.18 +(1:Int)) else x.18) =(ao r x c).18∧(bif c then x.19 else x.19) =(ao r x c).19∧(bif c then x.20 else x.20) =(ao r x c).20∧(nat_lit 4=nat_lit 4∧nat_lit 4=nat_lit 4)∧(bif c then x.22.1 else x.22.1) =(ao r x c).22.1∧(bif c then x.22.2.1 else x.22.2.1) =(ao r x c).22.2.1∧(bif c then x.23 else x.23) =(ao r x c).23∧True)∧true=hJ r x c∧True)∧ [RowD.mk (Ty.int IntKind.u8) x.11,RowD.mk (Ty.int IntKind.i64) [],RowD.mk (Ty.int IntKind.i64) x.13,RowD.mk (Ty.int IntKind.i64) (bif c then x.16.set (IntKind.i64.wrap (x.12 - (1:Int))).toNat (IntKind.i64.wrap (x.16.getD (IntKind.i64.wrap (x.12 - (1:Int))).toNat (dflt (Ty.int IntKind.i64)) +(1:Int))) else x.16),RowD.mk Ty.bool x.21]=[RowD.mk (Ty.int IntKind.u8) (ao r x c).11,RowD.mk (Ty.int IntKind.i64) (ao r x c).13,RowD.mk (Ty.int IntKind.i64) (ao r x c).14,RowD.mk (Ty.int IntKind.i64) (ao r x c).16,RowD.mk Ty.bool (ao r x c).21])))))
 have h0 :(bif !bs x x.Bowler then true else az r != 0)=jF r x:=by simp only [jF];cases bs x x.Bowler <;> cases (az r != 0) <;> rfl
 rw [h0]
 have hk:jF r x=false→IntKind.i64.wrap (x.Bowler - 1)=x.Bowler - 1∧0≤x.Bowler - 1∧x.Bowler - 1 <(x.Bowled.length:Int):=fun h=>ve hb (by
  cases hk:bs x x.Bowler with
  | true=>rfl
  | false=>simp only [jF,hk] at h;cases h)
 refine ⟨hs,fun h=>?_,fun h=>?_⟩
 ·rw [(Bg c h).1,(Bg c h).2];simp
 ·obtain ⟨ew,k1,k2⟩:=hk h
  rw [ew]
  have hd:x.Bowled.getD (x.Bowler - 1).toNat (dflt (Ty.int IntKind.i64))=x.Bowled.getD (x.Bowler - 1).toNat 0:=rfl
  refine ⟨fun h1=>⟨?_,⟨fun _=>⟨⟨k1,k2⟩,⟨k1,k2⟩,trivial⟩,fun _=>trivial⟩,fun _=>⟨fun h2=>?_,fun h2=>?_⟩⟩,fun h1=>⟨⟨fun _=>⟨⟨k1,k2⟩,⟨k1,k2⟩,trivial⟩,fun _=>trivial⟩,fun _=>⟨fun h2=>?_,fun h2=>?_⟩⟩⟩
  ·have:=hs.2.1
   simp only [List.length_cons,List.length_nil]
   omega
  ·have h1:e9 x.Bowlers x.Bowler=false:=by simpa using h1
   rw [(pg h h2).1,(pg h h2).2]
   cases c <;> simp [cS,eB,pM,h1] <;> first|rfl|exact ⟨rfl,rfl⟩
  ·have h1:e9 x.Bowlers x.Bowler=false:=by simpa using h1
   rw [(lA h h2).1,(lA h h2).2]
   cases c <;> simp [yf,cS,eB,pM,h1] <;> first|rfl|exact ⟨rfl,rfl⟩
  ·have h1:e9 x.Bowlers x.Bowler=true:=by simpa using h1
   rw [(pg h h2).1,(pg h h2).2]
   cases c <;> simp [cS,eB,pM,h1] <;> first|rfl|exact ⟨rfl,rfl⟩
  ·have h1:e9 x.Bowlers x.Bowler=true:=by simpa using h1
   rw [(lA h h2).1,(lA h h2).2]
   cases c <;> simp [yf,cS,eB,pM,h1] <;> first|rfl|exact ⟨rfl,rfl⟩
theorem LB:CtrOK Tryz.prog K8 387 (ar K8 B9 wA):=by
 refine aR (C:=cf8 [k47,k83,k84,k85] Tryz.f387) (bq (.cons Ha (.cons JF (.cons JG (.cons vw .nil)))) _) mixed (fn:=Tryz.f387) Tryz.func387 (by kernel_rfl) (by kernel_rfl) (by kernel_rfl) (Λ:=fun _ _=>none) ?_ ?_ ?_
 ·exact fun _ _ _ _ _ _ _ _ h=>by cases h
 ·rintro ⟨r,x,c,⟨⟩⟩
  exact of_decide_eq_true (by kernel_rfl)
 ·rintro ⟨r,x,c,⟨⟩⟩ hw hn
  exact KU r x c (hn _ (List.mem_singleton.2 rfl)) (DL (bo (aY hw)))
end Go.Proofs.YthaeofeigglbhaaGreatDoor
namespace Go.Proofs.YthaeofeigglbhaaGreatDoor
open Go Go.Mir
attribute [local irreducible] Go.Mir.DT.sat Go.Mir.evPat Go.Mir.RT.sat Go.Mir.evFn
abbrev qRI:Pat:=cm [.nm .Rules,.nm .Innings]
def Af (r:Rules) (x:Innings):Bool:=r.Overs==0&&x.Overs==0||r.Overs != 0&&inW x.Overs 1 r.Overs
def BM (r:Rules) (x:Innings):Bool:=(x.Batters.length:Int)==r.Side&&((x.Bowled.length:Int)==r.Side&&(x.Subs.length:Int)==r.Side)
def bZ (r:Rules) (x:Innings):Bool:=
 az r==0&&(inW x.Side 1 2&&(BM r x&&(decide (x.Ending≤5)&&(oX x r.Side&&(inW x.Bowler 0 r.Side&&(inW x.Keeper 0 r.Side&&(gw x.Bowlers r.Side&&(gw x.Before r.Side&&(Af r x&&(inW x.InOver 0 (W (r.Balls - 1))&&qW x))))))))))
def A3:Den (tyP qRI)→List Prop×Den (tyP aC):=fun x=>([ah x.2.1],(bZ x.1 x.2.1,()))
def uG (r:Rules) (x:Innings):Int:=
 if !bZ r x then 0 else if decide (x.Target>0)&&decide (x.Runs≥x.Target) then 3 else if cX x&&kV x then 1 else if decide (x.Overs>0)&&decide (x.Complete≥x.Overs) then 2 else 0
def JR:Den (tyP qRI)→List Prop×Den (tyP qH):=fun x=>([ah x.2.1],(uG x.1 x.2.1,()))
def uz (r:Rules) (x:Innings):Int:=W (W (x.Complete*r.Balls)+x.InOver)
def AK:Den (tyP qRI)→List Prop×Den (tyP bn):=fun x=>([],(uz x.1 x.2.1,()))
def Ah (x:Innings):Innings:={ x with Runs:=W (x.Runs+5),Extras:={ x.Extras with Penalties:=W (x.Extras.Penalties+5) } }
def F8:Den (tyP qIn)→List Prop×Den (tyP qIn):=fun x=>([ah x.1],(Ah x.1,()))
def vV:Den (tyP qIn)→List Prop×Den (tyP qIn):=fun x=>([ah x.1],(x.1,()))
abbrev jc:Pat:=cm [.nm .Rules,.nm .Innings,.nm .Event]
abbrev qIE:Pat:=cm [.nm .Innings,.nm .Event]
def oA (r:Rules) (x:Innings) (e:Mir.Event):Int:=if e.Side != x.Side then 2 else if r.Overs != 0 then 20 else 0
def m1 (r:Rules) (x:Innings) (e:Mir.Event):Innings:=if oA r x e != 0 then x else { x with Ending:=4 }
def FW:Den (tyP jc)→List Prop×Den (tyP q2L):=fun x=>([ah x.2.1],(m1 x.1 x.2.1 x.2.2.1,oA x.1 x.2.1 x.2.2.1,()))
def oe (e:Mir.Event):Int:=if e.Runs != 5 then 23 else 0
def ri (x:Innings) (e:Mir.Event):Innings:=if oe e != 0 then x else if e.Side==x.Side then Ah x else if x.Target>0 then { x with Target:=W (x.Target+5) } else x
def rG:Den (tyP qIE)→List Prop×Den (tyP q2L):=fun x=>([ah x.1],(ri x.1 x.2.1,oe x.2.1,()))
def Fo (x:Innings) (s:Int):Int:=if s==1 then x.Reviews.1 else x.Reviews.2.1
def lj (r:Rules) (x:Innings) (s:Int):Int:=if !x.Fresh||decide (Fo x s≥r.Reviews) then 24 else 0
def yC (x:Innings) (s:Int):Innings:={ x with Reviews:=if s==1 then (W (x.Reviews.1+1),x.Reviews.2.1,()) else (x.Reviews.1,W (x.Reviews.2.1+1),()) }
def ma (r:Rules) (x:Innings) (s:Int) (k:Bool):Innings:=if lj r x s != 0 then x else if k then x else yC x s
def iG (s:Int):Prop:=s=1∨s=2
def wc:Den (tyP jc)→List Prop×Den (tyP q2L):=fun x=>([ah x.2.1,iG x.2.2.1.Side],(ma x.1 x.2.1 x.2.2.1.Side x.2.2.1.Yes,lj x.1 x.2.1 x.2.2.1.Side,()))
def ln (r:Rules) (x:Innings) (t o:Int):Bool:=
 r.Overs==0 ||(t==0&&o==0 ||(decide (t>0)&&(x.Target==0||decide (t≤x.Runs))||decide (o>0)&&(decide (o>r.Overs)||decide (W (o*r.Balls)<uz r x))))
def rE (r:Rules) (x:Innings) (t o:Int):Int:=if ln r x t o then 25 else 0
def H7 (x:Innings) (t:Int):Innings:=if t>0 then { x with Target:=t } else x
def JP (x:Innings) (o:Int):Innings:=if o>0 then { x with Overs:=o } else x
def oq (r:Rules) (x:Innings) (t o:Int):Innings:=if ln r x t o then x else JP (H7 x t) o
def we:Den (tyP jc)→List Prop×Den (tyP q2L):=fun x=>([ah x.2.1],(oq x.1 x.2.1 x.2.2.1.Runs x.2.2.1.Overs,rE x.1 x.2.1 x.2.2.1.Runs x.2.2.1.Overs,()))
theorem Dj (x:Innings) (hs:ah x) :(evPat (an [k45,k90,k91] Tryz.f142) (fun _=>none) Tryz.f142 qIn qIn (x,())).sat fun z_=>z_ =(vV (x,())).2:=by
 refine cast (by kernel_rfl) (?_:x.11.length≤(1000000:Nat)∧x.13.length≤(1000000:Nat)∧x.14.length≤(1000000:Nat)∧x.16.length≤(1000000:Nat)∧x.21.length≤(1000000:Nat)∧(x,()) =(x,()))
 obtain ⟨h1,h2,h3,h4,h5⟩:=hs
 simp [h1,h2,h3,h4,h5]
def cV:FuncId×Ctr:=(142,af KE qIn qIn vV)
theorem fH:CtrOK Tryz.prog KE 142 (af KE qIn qIn vV):=by
 refine ax (C:=an [k45,k90,k91] Tryz.f142) (al (.consU G9 rfl (.consU Hd rfl (.consU He rfl .nil))) _) mixed (fn:=Tryz.f142) Tryz.func142 (by kernel_rfl) (by kernel_rfl) (by kernel_rfl) (by kernel_rfl) (by kernel_rfl) (by kernel_rfl) (Λ:=fun _ _=>none) ?_ ?_
 ·exact fun _ _ _ _ _ _ _ _ h=>by cases h
 ·rintro ⟨x,⟨⟩⟩ hw hn
  exact Dj x (hn _ List.mem_cons_self)
theorem Dk (r:Rules) (x:Innings) (hs:ah x) :(evPat (an [k85,cp,tv,EB,tx] Tryz.f208) (fun _=>none) Tryz.f208 qRI aC (r,x,())).sat fun z_=>z_ =(A3 (r,x,())).2:=by
 refine cast (by kernel_rfl) (?_:let r1:Bool:=inW x.8 (0:Int) (IntKind.i64.wrap (r.5 - (1:Int)));let r2:Bool:=bif r.4 !=(0:Int) then inW x.3 (1:Int) r.4 else false;let r3:Bool:=bif az r !=(0:Int) then true else !inW x.1 (1:Int) (2:Int);let r4:Bool:=bif !oX x r.2 then true else bif !inW x.12 (0:Int) r.2 then true else bif !inW x.19 (0:Int) r.2 then true else bif !gw x.13 r.2 then true else !gw x.14 r.2;let r5:Bool:=bif (↑x.11.length:Int) != r.2 then true else bif (↑x.16.length:Int) != r.2 then true else bif (↑x.21.length:Int) != r.2 then true else decide (x.23 >(5:Int));let r6:Bool:=bif r.4 ==(0:Int) then bif x.3 ==(0:Int) then true else r2 else r2;(r3=true→(false,()) =(bZ r x,()))∧(r3=false→(r5=true→(false,()) =(bZ r x,()))∧(r5=false→(ah x∧((!oX x r.2)=true→True)∧((!oX x r.2)=false→((!inW x.12 (0:Int) r.2)=true→True)∧((!inW x.12 (0:Int) r.2)=false→((!inW x.19 (0:Int) r.2)=true→True)∧((!inW x.19 (0:Int) r.2)=false→((!gw x.13 r.2)=true→True)∧((!gw x.13 r.2)=false→True)))))∧(true=true→(r4=true→(false,()) =(bZ r x,()))∧(r4=false→((r6=true→(r1=true→ah x∧True)∧(r1=false→True))∧(r6=false→True))∧(true=true→(bif r6 then bif r1 then qW x else false else false,()) =(bZ r x,())))))))
 intro r1 r2 r3 r4 r5 r6
 clear_value (hr1:r1=_) (hr2:r2=_) (hr3:r3=_) (hr4:r4=_) (hr5:r5=_) (hr6:r6=_)
 have e3:r3=!(az r==0&&inW x.Side 1 2):=by grind
 have e5:r5=!(BM r x&&decide (x.Ending≤5)):=by
  have hd:decide (x.Ending>5)=!decide (x.Ending≤5):=by by_cases h:x.Ending≤5 <;> simp [h] <;> omega
  rw [hr5,hd]
  unfold BM
  cases h1 :(x.Batters.length:Int)==r.Side <;> cases h2 :(x.Bowled.length:Int)==r.Side <;> cases h3 :(x.Subs.length:Int)==r.Side <;> simp [bne,h1,h2,h3]
 have e4:r4=!(oX x r.Side&&(inW x.Bowler 0 r.Side&&(inW x.Keeper 0 r.Side&&(gw x.Bowlers r.Side&&gw x.Before r.Side)))):=by rw [hr4];cases oX x r.Side <;> cases inW x.Bowler 0 r.Side <;> cases inW x.Keeper 0 r.Side <;> cases gw x.Bowlers r.Side <;> rfl
 have e6:r6=Af r x:=by grind [Af]
 have hv:bZ r x =(!r3&&(!r5&&(!r4&&(r6&&(r1&&qW x))))):=by rw [e3,e5,e4,e6,hr1];unfold bZ;simp only [Bool.not_not,Bool.and_assoc]
 rw [hv]
 cases r3 <;> cases r5 <;> cases r4 <;> cases r6 <;> cases r1 <;> simp [hs]
def nf:FuncId×Ctr:=(208,af KE qRI aC A3)
theorem q7:CtrOK Tryz.prog KE 208 (af KE qRI aC A3):=by
 refine ax (C:=an [k85,cp,tv,EB,tx] Tryz.f208) (al (.consU vw rfl (.consU dY rfl (.consU zW rfl (.consU Hq rfl (.consU zY rfl .nil))))) _) mixed (fn:=Tryz.f208) Tryz.func208 (by kernel_rfl) (by kernel_rfl) (by kernel_rfl) (by kernel_rfl) (by kernel_rfl) (by kernel_rfl) (Λ:=fun _ _=>none) ?_ ?_
 ·exact fun _ _ _ _ _ _ _ _ h=>by cases h
 ·rintro ⟨r,x,⟨⟩⟩ hw hn
  exact Dk r x (hn _ List.mem_cons_self)
theorem Dg (r:Rules) (x:Innings) :(evPat (an [] Tryz.f156) (fun _=>none) Tryz.f156 qRI bn (r,x,())).sat fun z_=>z_ =(AK (r,x,())).2:=by
 refine cast (by kernel_rfl) (?_ :(IntKind.i64.wrap (IntKind.i64.wrap (x.7*r.5)+x.8),()) =(uz r x,()))
 rfl
def BE:FuncId×Ctr:=(156,af KE qRI bn AK)
theorem EZ:CtrOK Tryz.prog KE 156 (af KE qRI bn AK):=by
 refine ax (C:=an [] Tryz.f156) (al (CtrsOK.nil) _) mixed (fn:=Tryz.f156) Tryz.func156 (by kernel_rfl) (by kernel_rfl) (by kernel_rfl) (by kernel_rfl) (by kernel_rfl) (by kernel_rfl) (Λ:=fun _ _=>none) ?_ ?_
 ·exact fun _ _ _ _ _ _ _ _ h=>by cases h
 ·rintro ⟨r,x,⟨⟩⟩ hw hn
  exact Dg r x
theorem yN (x:Innings) (hs:ah x) :(evPat (an [cV] Tryz.f336) (fun _=>none) Tryz.f336 qIn qIn (x,())).sat fun z_=>z_ =(F8 (x,())).2:=by
 refine cast (by kernel_rfl) (?_:ah x∧(Innings.mk x.1 x.2 x.3 (IntKind.i64.wrap (x.4 +(5:Int))) x.5 (Extras.mk x.6.1 x.6.2 x.6.3 x.6.4 (IntKind.i64.wrap (x.6.5 +(5:Int)))) x.7 x.8 x.9 x.10 x.11 x.12 x.13 x.14 x.15 x.16 x.17 x.18 x.19 x.20 x.21 x.22 x.23,()) =(Ah x,()))
 exact ⟨hs,rfl⟩
def iP:FuncId×Ctr:=(336,af KE qIn qIn F8)
theorem mT:CtrOK Tryz.prog KE 336 (af KE qIn qIn F8):=by
 refine ax (C:=an [cV] Tryz.f336) (al (.consU fH rfl .nil) _) mixed (fn:=Tryz.f336) Tryz.func336 (by kernel_rfl) (by kernel_rfl) (by kernel_rfl) (by kernel_rfl) (by kernel_rfl) (by kernel_rfl) (Λ:=fun _ _=>none) ?_ ?_
 ·exact fun _ _ _ _ _ _ _ _ h=>by cases h
 ·rintro ⟨x,⟨⟩⟩ hw hn
  exact yN x (hn _ List.mem_cons_self)
theorem AA (r:Rules) (x:Innings) (hs:ah x) :(evPat (an [nf,fG,vf] Tryz.f335) (fun _=>none) Tryz.f335 qRI qH (r,x,())).sat fun z_=>z_ =(JR (r,x,())).2:=by
 refine cast (by kernel_rfl) (?_:let r1:Bool:=bif cX x then (↑(xS x).length:Int) ==(0:Int) else false;let r2:Bool:=bif decide (x.2 >(0:Int)) then decide (x.4≥x.2) else false;let r3:Bool:=bif decide (x.3 >(0:Int)) then decide (x.7≥x.3) else false;ah x∧((!bZ r x)=true→((0:Int),()) =(uG r x,()))∧((!bZ r x)=false→(r2=true→((3:Int),()) =(uG r x,()))∧(r2=false→((cX x=true→ah x∧True)∧(cX x=false→True))∧(true=true→(r1=true→((1:Int),()) =(uG r x,()))∧(r1=false→(r3=true→((2:Int),()) =(uG r x,()))∧(r3=false→((0:Int),()) =(uG r x,())))))))
 intro r1 r2 r3
 clear_value (hr1:r1=_) (hr2:r2=_) (hr3:r3=_)
 grind [uG,kV]
def xM:FuncId×Ctr:=(335,af KE qRI qH JR)
theorem CX:CtrOK Tryz.prog KE 335 (af KE qRI qH JR):=by
 refine ax (C:=an [nf,fG,vf] Tryz.f335) (al (.consU q7 rfl (.consU lW rfl (.consU BZ rfl .nil))) _) mixed (fn:=Tryz.f335) Tryz.func335 (by kernel_rfl) (by kernel_rfl) (by kernel_rfl) (by kernel_rfl) (by kernel_rfl) (by kernel_rfl) (Λ:=fun _ _=>none) ?_ ?_
 ·exact fun _ _ _ _ _ _ _ _ h=>by cases h
 ·rintro ⟨r,x,⟨⟩⟩ hw hn
  exact AA r x (hn _ List.mem_cons_self)
theorem yL (r:Rules) (x:Innings) (e:Mir.Event) (hs:ah x) :(evPat (an [cV] Tryz.f369) (fun _=>none) Tryz.f369 jc q2L (r,x,e,())).sat fun z_=>z_ =(FW (r,x,e,())).2:=by
 refine cast (by kernel_rfl) (?_:ah x∧((e.2 != x.1)=true→(x,(2:Int),()) =(m1 r x e,oA r x e,()))∧((e.2 != x.1)=false→((r.4 !=(0:Int))=true→(x,(20:Int),()) =(m1 r x e,oA r x e,()))∧((r.4 !=(0:Int))=false→(Innings.mk x.1 x.2 x.3 x.4 x.5 x.6 x.7 x.8 x.9 x.10 x.11 x.12 x.13 x.14 x.15 x.16 x.17 x.18 x.19 x.20 x.21 x.22 (4:Int),(0:Int),()) =(m1 r x e,oA r x e,()))))
 grind [m1,oA]
def tw:FuncId×Ctr:=(369,af KE jc q2L FW)
theorem zX:CtrOK Tryz.prog KE 369 (af KE jc q2L FW):=by
 refine ax (C:=an [cV] Tryz.f369) (al (.consU fH rfl .nil) _) mixed (fn:=Tryz.f369) Tryz.func369 (by kernel_rfl) (by kernel_rfl) (by kernel_rfl) (by kernel_rfl) (by kernel_rfl) (by kernel_rfl) (Λ:=fun _ _=>none) ?_ ?_
 ·exact fun _ _ _ _ _ _ _ _ h=>by cases h
 ·rintro ⟨r,x,e,⟨⟩⟩ hw hn
  exact yL r x e (hn _ List.mem_cons_self)
theorem H5 (x:Innings) (e:Mir.Event) (hs:ah x) :(evPat (an [cV,iP] Tryz.f370) (fun _=>none) Tryz.f370 qIE q2L (x,e,())).sat fun z_=>z_ =(rG (x,e,())).2:=by
 refine cast (by kernel_rfl) (?_:let r1:Bool:=decide (x.2 >(0:Int));ah x∧((e.6 !=(5:Int))=true→(x,(23:Int),()) =(ri x e,oe e,()))∧((e.6 !=(5:Int))=false→((e.2==x.1)=true→ah x∧(Innings.mk x.1 x.2 x.3 (W (x.4 +(5:Int))) x.5 (Extras.mk x.6.1 x.6.2 x.6.3 x.6.4 (W (x.6.5 +(5:Int)))) x.7 x.8 x.9 x.10 x.11 x.12 x.13 x.14 x.15 x.16 x.17 x.18 x.19 x.20 x.21 x.22 x.23,(0:Int),()) =(ri x e,oe e,()))∧((e.2==x.1)=false→(Innings.mk (bif r1 then x.1 else x.1) (bif r1 then IntKind.i64.wrap (x.2 +(5:Int)) else x.2) (bif r1 then x.3 else x.3) (bif r1 then x.4 else x.4) (bif r1 then x.5 else x.5) (Extras.mk (bif r1 then x.6.1 else x.6.1) (bif r1 then x.6.2 else x.6.2) (bif r1 then x.6.3 else x.6.3) (bif r1 then x.6.4 else x.6.4) (bif r1 then x.6.5 else x.6.5)) (bif r1 then x.7 else x.7) (bif r1 then x.8 else x.8) (bif r1 then x.9 else x.9) (bif r1 then x.10 else x.10) (bif r1 then x.11 else x.11) (bif r1 then x.12 else x.12) (bif r1 then x.13 else x.13) (bif r1 then x.14 else x.14) (bif r1 then x.15 else x.15) (bif r1 then x.16 else x.16) (bif r1 then x.17 else x.17) (bif r1 then x.18 else x.18) (bif r1 then x.19 else x.19) (bif r1 then x.20 else x.20) (bif r1 then x.21 else x.21) (bif r1 then x.22.1 else x.22.1,bif r1 then x.22.2.1 else x.22.2.1,()) (bif r1 then x.23 else x.23),(0:Int),()) =(ri x e,oe e,()))))
 intro r1
 clear_value (hr1:r1=_)
 simp only [Bool.cond_self]
 refine ⟨hs,fun h=>?_,fun h=>⟨fun h2=>⟨hs,?_⟩,fun h2=>?_⟩⟩
 ·have e1:oe e=23:=by simp only [oe,h];rfl
  simp only [ri,e1];rfl
 ·have e1:oe e=0:=by simp only [oe,h];rfl
  simp only [ri,e1,h2];rfl
 ·have e1:oe e=0:=by simp only [oe,h];rfl
  simp only [ri,e1,h2]
  cases r1 with
  | true=>have:x.Target>0:=of_decide_eq_true hr1.symm;simp only [if_pos this];rfl
  | false=>have :¬ x.Target>0:=of_decide_eq_false hr1.symm;simp only [if_neg this];rfl
def Iv:FuncId×Ctr:=(370,af KE qIE q2L rG)
theorem JL:CtrOK Tryz.prog KE 370 (af KE qIE q2L rG):=by
 refine ax (C:=an [cV,iP] Tryz.f370) (al (.consU fH rfl (.consU mT rfl .nil)) _) mixed (fn:=Tryz.f370) Tryz.func370 (by kernel_rfl) (by kernel_rfl) (by kernel_rfl) (by kernel_rfl) (by kernel_rfl) (by kernel_rfl) (Λ:=fun _ _=>none) ?_ ?_
 ·exact fun _ _ _ _ _ _ _ _ h=>by cases h
 ·rintro ⟨x,e,⟨⟩⟩ hw hn
  exact H5 x e (hn _ List.mem_cons_self)
theorem AB (r:Rules) (x:Innings) (e:Mir.Event) (hs:ah x) (h2:iG e.Side) :(evPat (an [cV] Tryz.f371) (fun _=>none) Tryz.f371 jc q2L (r,x,e,())).sat fun z_=>z_ =(wc (r,x,e,())).2:=by
 refine cast (by kernel_rfl) (?_:let r1:Bool:=decide (x.22.1≥r.12);let r2:Int:=IntKind.i64.wrap (e.2 - (1:Int));let r3:Bool:=decide (x.22.2.1≥r.12);let r4:Bool:=r2 ==(0:Int);let r5:Bool:=r2 ==(1:Int);ah x∧((!x.15)=true→(x,(24:Int),()) =(ma r x e.2 e.5,lj r x e.2,()))∧((!x.15)=false→(r4=true→((0:Int)≤(0:Int)∧(0:Int) <(↑(2:Nat):Int))∧(r1=true→(x,(24:Int),()) =(ma r x e.2 e.5,lj r x e.2,()))∧(r1=false→((!e.5)=true→(r4=true→((0:Int)≤(0:Int)∧(0:Int) <(↑(2:Nat):Int))∧((0:Int)≤(0:Int)∧(0:Int) <(↑(2:Nat):Int))∧(Innings.mk x.1 x.2 x.3 x.4 x.5 x.6 x.7 x.8 x.9 x.10 x.11 x.12 x.13 x.14 x.15 x.16 x.17 x.18 x.19 x.20 x.21 (IntKind.i64.wrap (x.22.1 +(1:Int)),x.22.2) x.23,(0:Int),()) =(ma r x e.2 e.5,lj r x e.2,()))∧(r4=false→(r5=true→((0:Int)≤(1:Int)∧(1:Int) <(↑(2:Nat):Int))∧((0:Int)≤(1:Int)∧(1:Int) <(↑(2:Nat):Int))∧(Innings.mk x.1 x.2 x.3 x.4 x.5 x.6 x.7 x.8 x.9 x.10 x.11 x.12 x.13 x.14 x.15 x.16 x.17 x.18 x.19 x.20 x.21 (x.22.1,IntKind.i64.wrap (x.22.2.1 +(1:Int)),()) x.23,(0:Int),()) =(ma r x e.2 e.5,lj r x e.2,()))∧(r5=false→False∧True)))∧((!e.5)=false→(x,(0:Int),()) =(ma r x e.2 e.5,lj r x e.2,()))))∧(r4=false→(r5=true→((0:Int)≤(1:Int)∧(1:Int) <(↑(2:Nat):Int))∧(r3=true→(x,(24:Int),()) =(ma r x e.2 e.5,lj r x e.2,()))∧(r3=false→((!e.5)=true→(r4=true→((0:Int)≤(0:Int)∧(0:Int) <(↑(2:Nat):Int))∧((0:Int)≤(0:Int)∧(0:Int) <(↑(2:Nat):Int))∧(Innings.mk x.1 x.2 x.3 x.4 x.5 x.6 x.7 x.8 x.9 x.10 x.11 x.12 x.13 x.14 x.15 x.16 x.17 x.18 x.19 x.20 x.21 (IntKind.i64.wrap (x.22.1 +(1:Int)),x.22.2) x.23,(0:Int),()) =(ma r x e.2 e.5,lj r x e.2,()))∧(r4=false→(r5=true→((0:Int)≤(1:Int)∧(1:Int) <(↑(2:Nat):Int))∧((0:Int)≤(1:Int)∧(1:Int) <(↑(2:Nat):Int))∧(Innings.mk x.1 x.2 x.3 x.4 x.5 x.6 x.7 x.8 x.9 x.10 x.11 x.12 x.13 x.14 x.15 x.16 x.17 x.18 x.19 x.20 x.21 (x.22.1,IntKind.i64.wrap (x.22.2.1 +(1:Int)),()) x.23,(0:Int),()) =(ma r x e.2 e.5,lj r x e.2,()))∧(r5=false→False∧True)))∧((!e.5)=false→(x,(0:Int),()) =(ma r x e.2 e.5,lj r x e.2,()))))∧(r5=false→False∧True))))
 intro r1 r2 r3 r4 r5
 clear_value (hr1:r1=_) (hr2:r2=_) (hr3:r3=_) (hr4:r4=_) (hr5:r5=_)
 rcases h2 with hS|hS
 ·have e4:r4=true:=by rw [hr4,hr2,hS];rfl
  have hL:lj r x e.Side=if !x.Fresh||r1 then 24 else 0:=by simp only [lj,Fo,hS];rw [hr1];rfl
  have hU:yC x e.Side={ x with Reviews:=(W (x.Reviews.1+1),x.Reviews.2.1,()) }:=by simp only [yC,hS];rfl
  clear hr1 hr2 hr3 hr4 hr5
  cases hf:x.Fresh <;> cases r1 <;> cases hk:e.Yes <;> simp [e4,hs,ma,hL,hU,hf,hk]
 ·have e4:r4=false:=by rw [hr4,hr2,hS];rfl
  have e5:r5=true:=by rw [hr5,hr2,hS];rfl
  have hL:lj r x e.Side=if !x.Fresh||r3 then 24 else 0:=by simp only [lj,Fo,hS];rw [hr3];rfl
  have hU:yC x e.Side={ x with Reviews:=(x.Reviews.1,W (x.Reviews.2.1+1),()) }:=by simp only [yC,hS];rfl
  clear hr1 hr2 hr3 hr4 hr5
  cases hf:x.Fresh <;> cases r3 <;> cases hk:e.Yes <;> simp [e4,e5,hs,ma,hL,hU,hf,hk]
def xN:FuncId×Ctr:=(371,af KE jc q2L wc)
theorem CY:CtrOK Tryz.prog KE 371 (af KE jc q2L wc):=by
 refine ax (C:=an [cV] Tryz.f371) (al (.consU fH rfl .nil) _) mixed (fn:=Tryz.f371) Tryz.func371 (by kernel_rfl) (by kernel_rfl) (by kernel_rfl) (by kernel_rfl) (by kernel_rfl) (by kernel_rfl) (Λ:=fun _ _=>none) ?_ ?_
 ·exact fun _ _ _ _ _ _ _ _ h=>by cases h
 ·rintro ⟨r,x,e,⟨⟩⟩ hw hn
  exact AB r x e (hn _ List.mem_cons_self) (hn _ (List.mem_cons_of_mem _ List.mem_cons_self))
theorem AC (r:Rules) (x:Innings) (e:Mir.Event) (hs:ah x) :(evPat (an [cV,BE] Tryz.f372) (fun _=>none) Tryz.f372 jc q2L (r,x,e,())).sat fun z_=>z_ =(we (r,x,e,())).2:=by
 refine cast (by kernel_rfl) (?_:let r1:Bool:=decide (e.6 >(0:Int));let r2:Bool:=decide (e.7 >(0:Int));let r3:Int:=bif r1 then x.1 else x.1;let r4:Int:=bif r1 then e.6 else x.2;let r5:Int:=bif r1 then x.4 else x.4;let r6:Int:=bif r1 then x.5 else x.5;let r7:Int:=bif r1 then x.7 else x.7;let r8:Int:=bif r1 then x.8 else x.8;let r9:Int:=bif r1 then x.9 else x.9;let r10:Int:=bif r1 then x.10 else x.10;let r11:Int:=bif r1 then x.12 else x.12;let r12:Bool:=bif r1 then x.15 else x.15;let r13:Bool:=bif r1 then x.17 else x.17;let r14:Int:=bif r1 then x.18 else x.18;let r15:Int:=bif r1 then x.19 else x.19;let r16:Int:=bif r1 then x.20 else x.20;let r17:Int:=bif r1 then x.23 else x.23;let r18:Int:=bif r1 then x.6.1 else x.6.1;let r19:Int:=bif r1 then x.6.2 else x.6.2;let r20:Int:=bif r1 then x.6.3 else x.6.3;let r21:Int:=bif r1 then x.6.4 else x.6.4;let r22:Int:=bif r1 then x.6.5 else x.6.5;let r23:List Bool:=bif r1 then x.21 else x.21;let r24:Int:=bif r1 then x.22.1 else x.22.1;let r25:List Int:=bif r1 then x.11 else x.11;let r26:List Int:=bif r1 then x.13 else x.13;let r27:List Int:=bif r1 then x.14 else x.14;let r28:List Int:=bif r1 then x.16 else x.16;let r29:Int:=bif r1 then x.22.2.1 else x.22.2.1;let r30:Bool:=bif r.4 ==(0:Int) then true else bif e.6 ==(0:Int) then e.7 ==(0:Int) else false;let r31:Bool:=bif r1 then bif x.2 ==(0:Int) then true else decide (e.6≤x.4) else false;let r32:Bool:=bif r2 then bif decide (e.7>r.4) then true else decide (IntKind.i64.wrap (e.7*r.5)<uz r x) else false;ah x∧(r30=true→(x,(25:Int),()) =(oq r x e.6 e.7,rE r x e.6 e.7,()))∧(r30=false→(r31=true→(x,(25:Int),()) =(oq r x e.6 e.7,rE r x e.6 e.7,()))∧(r31=false→(r32=true→(x,(25:Int),()) =(oq r x e.6 e.7,rE r x e.6 e.7,()))∧(r32=false→(Innings.mk (bif r2 then r3 else r3) (bif r2 then r4 else r4) (bif r2 then e.7 else bif r1 then x.3 else x.3) (bif r2 then r5 else r5) (bif r2 then r6 else r6) (Extras.mk (bif r2 then r18 else r18) (bif r2 then r19 else r19) (bif r2 then r20 else r20) (bif r2 then r21 else r21) (bif r2 then r22 else r22)) (bif r2 then r7 else r7) (bif r2 then r8 else r8) (bif r2 then r9 else r9) (bif r2 then r10 else r10) (bif r2 then r25 else r25) (bif r2 then r11 else r11) (bif r2 then r26 else r26) (bif r2 then r27 else r27) (bif r2 then r12 else r12) (bif r2 then r28 else r28) (bif r2 then r13 else r13) (bif r2 then r14 else r14) (bif r2 then r15 else r15) (bif r2 then r16 else r16) (bif r2 then r23 else r23) (bif r2 then r24 else r24,bif r2 then r29 else r29,()) (bif r2 then r17 else r17),(0:Int),()) =(oq r x e.6 e.7,rE r x e.6 e.7,())))))
 intro r1 r2 r3 r4 r5 r6 r7 r8 r9 r10 r11 r12 r13 r14 r15 r16 r17 r18 r19 r20 r21 r22 r23 r24 r25 r26 r27 r28 r29 r30 r31 r32
 clear_value (hr1:r1=_) (hr2:r2=_) (hr3:r3=_) (hr4:r4=_) (hr5:r5=_) (hr6:r6=_) (hr7:r7=_) (hr8:r8=_) (hr9:r9=_) (hr10:r10=_) (hr11:r11=_) (hr12:r12=_) (hr13:r13=_) (hr14:r14=_) (hr15:r15=_) (hr16:r16=_) (hr17:r17=_) (hr18:r18=_) (hr19:r19=_) (hr20:r20=_) (hr21:r21=_) (hr22:r22=_) (hr23:r23=_) (hr24:r24=_) (hr25:r25=_) (hr26:r26=_) (hr27:r27=_) (hr28:r28=_) (hr29:r29=_) (hr30:r30=_) (hr31:r31=_) (hr32:r32=_)
 simp only [Bool.cond_self] at *
 have hb:ln r x e.Runs e.Overs =(r30 ||(r31||r32)):=by grind [ln]
 clear hr30 hr31 hr32
 subst hr3 hr5 hr6 hr7 hr8 hr9 hr10 hr11 hr12 hr13 hr14 hr15 hr16 hr17 hr18 hr19 hr20 hr21 hr22 hr23 hr24 hr25 hr26 hr27 hr28 hr29
 subst hr4
 refine ⟨hs,fun h=>?_,fun h=>⟨fun h2=>?_,fun h2=>⟨fun h3=>?_,fun h3=>?_⟩⟩⟩
 ·have hb':ln r x e.Runs e.Overs=true:=by rw [hb,h];rfl
  simp only [oq,rE,hb'];rfl
 ·have hb':ln r x e.Runs e.Overs=true:=by rw [hb,h,h2];rfl
  simp only [oq,rE,hb'];rfl
 ·have hb':ln r x e.Runs e.Overs=true:=by rw [hb,h,h2,h3];rfl
  simp only [oq,rE,hb'];rfl
 ·have hb':ln r x e.Runs e.Overs=false:=by rw [hb,h,h2,h3];rfl
  simp only [oq,rE,hb',H7,JP]
  cases r1 with
  | true=>
   have h1:e.Runs>0:=of_decide_eq_true hr1.symm
   cases r2 with
   | true=>have h2:e.Overs>0:=of_decide_eq_true hr2.symm;simp only [if_pos h1,if_pos h2];rfl
   | false=>have h2 :¬ e.Overs>0:=of_decide_eq_false hr2.symm;simp only [if_pos h1,if_neg h2];rfl
  | false=>
   have h1 :¬ e.Runs>0:=of_decide_eq_false hr1.symm
   cases r2 with
   | true=>have h2:e.Overs>0:=of_decide_eq_true hr2.symm;simp only [if_neg h1,if_pos h2];rfl
   | false=>have h2 :¬ e.Overs>0:=of_decide_eq_false hr2.symm;simp only [if_neg h1,if_neg h2];rfl
def xO:FuncId×Ctr:=(372,af KE jc q2L we)
theorem CZ:CtrOK Tryz.prog KE 372 (af KE jc q2L we):=by
 refine ax (C:=an [cV,BE] Tryz.f372) (al (.consU fH rfl (.consU EZ rfl .nil)) _) mixed (fn:=Tryz.f372) Tryz.func372 (by kernel_rfl) (by kernel_rfl) (by kernel_rfl) (by kernel_rfl) (by kernel_rfl) (by kernel_rfl) (Λ:=fun _ _=>none) ?_ ?_
 ·exact fun _ _ _ _ _ _ _ _ h=>by cases h
 ·rintro ⟨r,x,e,⟨⟩⟩ hw hn
  exact AC r x e (hn _ List.mem_cons_self)
end Go.Proofs.YthaeofeigglbhaaGreatDoor
namespace Go.Proofs.YthaeofeigglbhaaGreatDoor
open Go Go.Mir
end Go.Proofs.YthaeofeigglbhaaGreatDoor
namespace Go.Proofs.YthaeofeigglbhaaGreatDoor
open Go Go.Mir
theorem qf :∀ (m:Nat) (l:List Int),l.Nodup→(∀ x∈l,1≤x∧x≤(m:Int))→l.length≤m
 | 0,l,_,h=>by
  cases l with
  | nil=>simp
  | cons x l=>have:=h x List.mem_cons_self;omega
 | m+1,l,hn,h=>by
  have ih:=qf m (l.erase ((m+1:Nat):Int)) (hn.erase _) (fun x hx=>by
   have h1:=(hn.mem_erase_iff).1 hx
   have h2:=h x h1.2
   have:=h1.1
   omega)
  by_cases hm :((m+1:Nat):Int)∈l
  ·rw [List.length_erase_of_mem hm] at ih;omega
  ·rw [List.erase_of_not_mem hm] at ih;omega
theorem pQ {most:Int} :∀ (l seen:List Int),s5 most seen l=true→seen.Nodup→(∀ x∈seen,1≤x∧x≤most)→(seen++l).Nodup∧(∀ x∈seen++l,1≤x∧x≤most)
 | [],seen,_,h1,h2=>by simpa using ⟨h1,h2⟩
 | n::r,seen,h,h1,h2=>by
  unfold s5 at h
  split at h
  ·cases h
  ·rename_i hc
   have hc :(!inW n 1 most||e9 seen n)=false:=by simpa using hc
   simp only [Bool.or_eq_false_iff,Bool.not_eq_false',inW,Bool.and_eq_true,decide_eq_true_eq] at hc
   obtain ⟨⟨c1,c2⟩,c3⟩:=hc
   have c4:n∉seen:=fun hm=>by
    have:e9 seen n=true:=by unfold e9;simpa using hm
    rw [this] at c3;cases c3
   have:=pQ r (seen++[n]) h (by
    rw [List.nodup_append]
    refine ⟨h1,by simp,?_⟩
    intro a ha b hb e
    simp only [List.mem_singleton] at hb
    subst hb;subst e;exact c4 ha) (fun x hx=>by
    rcases List.mem_append.1 hx with hx|hx
    ·exact h2 x hx
    ·simp only [List.mem_singleton] at hx;subst hx;exact ⟨c1,c2⟩)
   rwa [List.append_assoc] at this
theorem oB {most:Int} {l:List Int} (h:gw l most=true) :(l.length:Int)≤most∨l=[]:=by
 cases l with
 | nil=>exact .inr rfl
 | cons n r=>
  left
  obtain ⟨h1,h2⟩:=pQ (n::r) [] h .nil (fun x hx=>by cases hx)
  simp only [List.nil_append] at h1 h2
  have h3:=h2 n List.mem_cons_self
  have:=qf most.toNat (n::r) h1 (fun x hx=>by have:=h2 x hx;omega)
  omega
theorem ku {r:Rules} (h:az r=0) :(2≤r.Side∧r.Side≤11)∧(0≤r.Overs∧r.Overs≤90)∧(4≤r.Balls∧r.Balls≤8):=by
 have hr:cH r=true:=by
  cases hr:cH r with
  | true=>rfl
  | false=>
   unfold az at h
   cases hn:mh r.Name <;> simp [hn,hr] at h
 simp only [cH,aU,Bool.and_eq_true,decide_eq_true_eq] at hr
 omega
end Go.Proofs.YthaeofeigglbhaaGreatDoor
namespace Go.Proofs.YthaeofeigglbhaaGreatDoor
open Go Go.Mir
attribute [local irreducible] Go.Mir.DT.sat Go.Mir.evPat Go.Mir.RT.sat Go.Mir.evFn
end Go.Proofs.YthaeofeigglbhaaGreatDoor
namespace Go.Proofs.YthaeofeigglbhaaGreatDoor
open Go Go.Mir
attribute [local irreducible] Go.Mir.DT.sat Go.Mir.evPat Go.Mir.RT.sat Go.Mir.evFn
abbrev yz:Pat:=cm [.nm .Rules,.nm .Innings,.nm .Delivery]
def je (r:Rules) (x:Innings) (d:Delivery):Int:=
 if cX x then 6 else if x.Bowler==0 then 7 else if jL r x != 0 then jL r x else if cW d != 0 then cW d else if bN d x.FreeHit != 0 then bN d x.FreeHit else gI x d
def rI:Den (tyP yz)→List Prop×Den (tyP bn):=fun x=>([],(je x.1 x.2.1 x.2.2.1,()))
def I8 (x:Innings) (c:Credit):Innings:={ x with Runs:=W (x.Runs+w7 c),Extras:={ x.Extras with Wides:=W (x.Extras.Wides+c.Wides),NoBalls:=W (x.Extras.NoBalls+c.NoBalls),Byes:=W (x.Extras.Byes+c.Byes),LegByes:=W (x.Extras.LegByes+c.LegByes) } }
def IA (y:Innings) (o:Bool):Innings:=if o then jm y else y
def qj (r:Rules) (x:Innings) (d:Delivery):Innings:=if d.Typ==1 then { x with FreeHit:=false } else if d.Typ==3&&r.FreeHit then { x with FreeHit:=true } else x
def kA (r:Rules) (x:Innings) (c:Bool):Innings:=IA (ao r x c) (hJ r x c)
def iX (r:Rules) (x:Innings) (d:Delivery):Innings:=if je r x d != 0 then x else qj r (kA r (I8 (cB x d) (bO r d)) (bO r d).Counts) d
def eV (x:Innings):Prop:=x.Batters.length≤999999∧x.Bowlers.length≤999999∧x.Before.length≤999999∧x.Bowled.length≤999999∧x.Subs.length≤999999
def Ga:Den (tyP yz)→List Prop×Den (tyP q2L):=fun x=>([eV x.2.1],(iX x.1 x.2.1 x.2.2.1,je x.1 x.2.1 x.2.2.1,()))
theorem lq {x:Innings} (h:eV x):ah x:=by
 obtain ⟨h1,h2,h3,h4,h5⟩:=h
 exact ⟨by omega,by omega,by omega,by omega,by omega⟩
theorem tW {x:Innings} (d:Delivery) (h:eV x):eV (cB x d):=by
 have e1 :(cB x d).Batters.length=x.Batters.length:=by
  unfold cB fW dG ix jm ca
  repeat' split
  all_goals simp
 have e2 :(cB x d).Bowlers=x.Bowlers∧(cB x d).Before=x.Before∧(cB x d).Bowled=x.Bowled∧(cB x d).Subs=x.Subs:=by
  unfold cB fW dG ix jm ca
  repeat' split
  all_goals exact ⟨rfl,rfl,rfl,rfl⟩
 obtain ⟨k2,k3,k4,k5⟩:=e2
 unfold eV
 rw [e1,k2,k3,k4,k5]
 exact h
theorem pJ {r:Rules} {x:Innings} (c:Bool) (h:eV x):ah (ao r x c):=by
 have hb :(eB x).length≤x.Bowlers.length+1:=by unfold eB;split <;> simp
 have hu :(pM x).length=x.Bowled.length:=by unfold pM;simp
 have hc :(cS x c).Batters=x.Batters∧(cS x c).Before=x.Before∧(cS x c).Subs=x.Subs∧(cS x c).Bowlers=eB x∧(cS x c).Bowled.length=x.Bowled.length:=by
  unfold cS;cases c
  ·exact ⟨rfl,rfl,rfl,rfl,rfl⟩
  ·exact ⟨rfl,rfl,rfl,rfl,hu⟩
 obtain ⟨c1,c2,c3,c4,c5⟩:=hc
 obtain ⟨h1,h2,h3,h4,h5⟩:=h
 unfold ao
 split
 ·exact ⟨by omega,by omega,by omega,by omega,by omega⟩
 ·split
  ·unfold ah;rw [c1,c2,c3,c4,c5];exact ⟨by omega,by omega,by omega,by omega,by omega⟩
  ·unfold ah yf;simp only;rw [c1,c3,c4,c5];exact ⟨by omega,by simp,by omega,by omega,by omega⟩
theorem yP (r:Rules) (x:Innings) (d:Delivery) :(evPat (an [fG,k40,lL,k17,k42] Tryz.f385) (find [(rid (aE Tryz.f385 0),bp 5 (an [fG,k40,lL,k17,k42] Tryz.f385) (fun _=>none) (aE Tryz.f385 0))]) Tryz.f385 yz bn (r,x,d,())).sat fun z_=>z_ =(rI (r,x,d,())).2:=by
 refine cast (by kernel_rfl) (?_:let r1:Int:=IntKind.i64.wrap ((0:Int) +(1:Int));let r2:List Int:= [jL r x,cW d,bN d x.17,gI x d];let r3:Int:=IntKind.i64.wrap (r1 +(1:Int));let r4:Int:=(↑r2.length:Int);let r5:Int:=r2.getD (Int.toNat (0:Int)) (dflt (Ty.int IntKind.i64));let r6:Int:=IntKind.i64.wrap (r3 +(1:Int));let r7:Bool:=r5 !=(0:Int);let r8:Int:=r2.getD r1.toNat (dflt (Ty.int IntKind.i64));let r9:Bool:=r8 !=(0:Int);let r10:Int:=r2.getD r3.toNat (dflt (Ty.int IntKind.i64));let r11:Bool:=r10 !=(0:Int);let r12:Int:=r2.getD r6.toNat (dflt (Ty.int IntKind.i64));let r13:Bool:=r12 !=(0:Int);(cX x=true→((6:Int),()) =(je r x d,()))∧(cX x=false→((x.12 ==(0:Int))=true→((7:Int),()) =(je r x d,()))∧((x.12 ==(0:Int))=false→True∧((0:Int)≤(0:Int)∧(0:Int)<r4)∧(r7=true→(r5,()) =(je r x d,()))∧(r7=false→((0:Int)≤r1∧r1<r4)∧(r9=true→(r8,()) =(je r x d,()))∧(r9=false→((0:Int)≤r3∧r3<r4)∧(r11=true→(r10,()) =(je r x d,()))∧(r11=false→((0:Int)≤r6∧r6<r4)∧(r13=true→(r12,()) =(je r x d,()))∧(r13=false→((0:Int),()) =(je r x d,()))))))))
 intro r1 r2 r3 r4 r5 r6 r7 r8 r9 r10 r11 r12 r13
 clear_value (hr1:r1=_) (hr2:r2=_) (hr3:r3=_) (hr4:r4=_) (hr5:r5=_) (hr6:r6=_) (hr7:r7=_) (hr8:r8=_) (hr9:r9=_) (hr10:r10=_) (hr11:r11=_) (hr12:r12=_) (hr13:r13=_)
 have n1:r1=1:=by rw [hr1];rfl
 have n3:r3=2:=by rw [hr3,n1];rfl
 have n6:r6=3:=by rw [hr6,n3];rfl
 have n4:r4=4:=by rw [hr4,hr2];rfl
 have e5:r5=jL r x:=by rw [hr5,hr2];rfl
 have e8:r8=cW d:=by rw [hr8,hr2,n1];rfl
 have e10:r10=bN d x.FreeHit:=by rw [hr10,hr2,n3];rfl
 have e12:r12=gI x d:=by rw [hr12,hr2,n6];rfl
 clear hr1 hr2 hr3 hr4 hr5 hr6 hr8 hr10 hr12
 subst e5 e8 e10 e12 n1 n3 n4 n6
 unfold je
 rw [←hr7,←hr9,←hr11]
 cases cX x <;> cases x.Bowler==0 <;> cases r7 <;> cases r9 <;> cases r11 <;> cases h13:r13 <;> simp
 all_goals (rw [h13] at hr13;simp at hr13;exact hr13.symm)
def tA:FuncId×Ctr:=(385,af KE yz bn rI)
theorem z6:CtrOK Tryz.prog KE 385 (af KE yz bn rI):=by
 refine ax (C:=an [fG,k40,lL,k17,k42] Tryz.f385) (al (.consU lW rfl (.consU Kz rfl (.consU qZ rfl (.consU Ky rfl (.consU KA rfl .nil))))) _) mixed (fn:=Tryz.f385) Tryz.func385 (by kernel_rfl) (by kernel_rfl) (by kernel_rfl) (by kernel_rfl) (by kernel_rfl) (by kernel_rfl) (Λ:=fun x=>find [(rid (aE Tryz.f385 0),bp 5 (an [fG,k40,lL,k17,k42] Tryz.f385) (fun _=>none) (aE Tryz.f385 0))]) ?_ ?_
 ·rintro ⟨r,x,d,⟨⟩⟩ hw hn
  exact LoopsOKp.at (by kernel_rfl) (.cons (by kernel_rfl) (eo 5 (al (.consU lW rfl (.consU Kz rfl (.consU qZ rfl (.consU Ky rfl (.consU KA rfl .nil))))) _) mixed (Λ:=fun _=>none) (b:=aE Tryz.f385 0) rfl (fun _ _ _ h=>by cases h)) .nil)
 ·rintro ⟨r,x,d,⟨⟩⟩ hw hn
  exact yP r x d
theorem FH (r:Rules) (x:Innings) (d:Delivery) (hs:eV x) :(evPat (an [cV,tA,xK,Ir,BB,k51,xI] Tryz.f361) (fun _=>none) Tryz.f361 yz q2L (r,x,d,())).sat fun z_=>z_ =(Ga (r,x,d,())).2:=by
 refine cast (by kernel_rfl) (?_:let r1:Bool:=je r x d !=(0:Int);let r2:Bool:=bif d.1 ==(3:Int) then r.9 else false;let r3:Innings:=Innings.mk (cB x d).1 (cB x d).2 (cB x d).3 (IntKind.i64.wrap ((cB x d).4+w7 (bO r d))) (cB x d).5 (Extras.mk (IntKind.i64.wrap ((cB x d).6.1 +(bO r d).2)) (IntKind.i64.wrap ((cB x d).6.2 +(bO r d).3)) (IntKind.i64.wrap ((cB x d).6.3 +(bO r d).4)) (IntKind.i64.wrap ((cB x d).6.4 +(bO r d).5)) (cB x d).6.5) (cB x d).7 (cB x d).8 (cB x d).9 (cB x d).10 (cB x d).11 (cB x d).12 (cB x d).13 (cB x d).14 (cB x d).15 (cB x d).16 (cB x d).17 (cB x d).18 (cB x d).19 (cB x d).20 (cB x d).21 (cB x d).22 (cB x d).23;let r4:Bool:=hJ r r3 (bO r d).7;let r5:Innings:=ao r r3 (bO r d).7;let r6:Bool:=bif d.1 ==(1:Int) then false else bif r2 then true else r5.17;let r7:Int:=bif d.1 ==(1:Int) then r5.1 else bif r2 then r5.1 else r5.1;let r8:Int:=bif d.1 ==(1:Int) then r5.2 else bif r2 then r5.2 else r5.2;let r9:Int:=bif d.1 ==(1:Int) then r5.3 else bif r2 then r5.3 else r5.3;let r10:Int:=bif d.1 ==(1:Int) then r5.4 else bif r2 then r5.4 else r5.4;let r11:Int:=bif d.1 ==(1:Int) then r5.5 else bif r2 then r5.5 else r5.5;let r12:Int:=bif d.1 ==(1:Int) then r5.7 else bif r2 then r5.7 else r5.7;let r13:Int:=bif d.1 ==(1:Int) then r5.8 else bif r2 then r5.8 else r5.8;let r14:Int:=bif d.1 ==(1:Int) then r5.10 else bif r2 then r5.10 else r5.10;let r15:Int:=bif d.1 ==(1:Int) then r5.9 else bif r2 then r5.9 else r5.9;let r16:Int:=bif d.1 ==(1:Int) then r5.12 else bif r2 then r5.12 else r5.12;let r17:Bool:=bif d.1 ==(1:Int) then r5.15 else bif r2 then r5.15 else r5.15;let r18:Int:=bif d.1 ==(1:Int) then r5.18 else bif r2 then r5.18 else r5.18;let r19:Int:=bif d.1 ==(1:Int) then r5.19 else bif r2 then r5.19 else r5.19;let r20:Int:=bif d.1 ==(1:Int) then r5.20 else bif r2 then r5.20 else r5.20;let r21:Int:=bif d.1 ==(1:Int) then r5.23 else bif r2 then r5.23 else r5.23;let r22:Extras:=Extras.mk (bif d.1 ==(1:Int) then r5.6.1 else bif r2 then r5.6.1 else r5.6.1) (bif d.1 ==(1:Int) then r5.6.2 else bif r2 then r5.6.2 else r5.6.2) (bif d.1 ==(1:Int) then r5.6.3 else bif r2 then r5.6.3 else r5.6.3) (bif d.1 ==(1:Int) then r5.6.4 else bif r2 then r5.6.4 else r5.6.4) (bif d.1 ==(1:Int) then r5.6.5 else bif r2 then r5.6.5 else r5.6.5);(r1=true→ah x∧(x,je r x d,()) =(iX r x d,je r x d,()))∧(r1=false→ah x∧ah r3∧(r4=true→ah r5∧(Innings.mk r7 r8 r9 r10 r11 r22 r12 r13 r14 r15 (bif d.1 ==(1:Int) then r5.11 else bif r2 then r5.11 else r5.11) r16 (bif d.1 ==(1:Int) then r5.13 else bif r2 then r5.13 else r5.13) (bif d.1 ==(1:Int) then r5.14 else bif r2 then r5.14 else r5.14) r17 (bif d.1 ==(1:Int) then r5.16 else bif r2 then r5.16 else r5.16) r6 r18 r19 r20 (bif d.1 ==(1:Int) then r5.21 else bif r2 then r5.21 else r5.21) (bif d.1 ==(1:Int) then r5.22.1 else bif r2 then r5.22.1 else r5.22.1,bif d.1 ==(1:Int) then r5.22.2.1 else bif r2 then r5.22.2.1 else r5.22.2.1,()) r21,(0:Int),()) =(iX r x d,je r x d,()))∧(r4=false→(Innings.mk r7 r8 r9 r10 r11 r22 r12 r13 r15 r14 r5.11 r16 r5.13 r5.14 r17 r5.16 r6 r18 r19 r20 r5.21 (bif d.1 ==(1:Int) then r5.22.1 else bif r2 then r5.22.1 else r5.22.1,bif d.1 ==(1:Int) then r5.22.2.1 else bif r2 then r5.22.2.1 else r5.22.2.1,()) r21,(0:Int),()) =(iX r x d,je r x d,()))))
 intro r1 r2 r3 r4 r5 r6 r7 r8 r9 r10 r11 r12 r13 r14 r15 r16 r17 r18 r19 r20 r21 r22
 clear_value (hr1:r1=_) (hr2:r2=_) (hr3:r3=_) (hr4:r4=_) (hr5:r5=_) (hr6:r6=_) (hr7:r7=_) (hr8:r8=_) (hr9:r9=_) (hr10:r10=_) (hr11:r11=_) (hr12:r12=_) (hr13:r13=_) (hr14:r14=_) (hr15:r15=_) (hr16:r16=_) (hr17:r17=_) (hr18:r18=_) (hr19:r19=_) (hr20:r20=_) (hr21:r21=_) (hr22:r22=_)
 simp only [Bool.cond_self] at *
 have e3:r3=I8 (cB x d) (bO r d):=hr3
 have e22:r22=r5.Extras:=hr22
 have e2:r2 =(d.Typ==3&&r.FreeHit):=by rw [hr2];cases d.Typ==3 <;> rfl
 have s3:eV r3:=by rw [e3];exact tW d hs
 clear hr3 hr22 hr2
 subst hr7 hr8 hr9 hr10 hr11 hr12 hr13 hr14 hr15 hr16 hr17 hr18 hr19 hr20 hr21 e22
 refine ⟨fun h=>⟨lq hs,?_⟩,fun h=>⟨lq hs,lq s3,fun h4=>⟨?_,?_⟩,fun h4=>?_⟩⟩
 ·rw [hr1] at h;simp only [iX,h];rfl
 ·rw [hr5];exact pJ _ s3
 ·have hL:je r x d=0:=by rw [hr1] at h;simpa using h
  have hp:iX r x d=qj r (kA r r3 (bO r d).Counts) d:=by simp only [iX,hL,e3];rfl
  have ho:kA r r3 (bO r d).Counts=jm r5:=by unfold kA;rw [←hr4,←hr5,h4];rfl
  rw [hp,ho,hL]
  unfold qj
  rw [←e2,hr6]
  cases d.Typ==1 <;> cases r2 <;> rfl
 ·have hL:je r x d=0:=by rw [hr1] at h;simpa using h
  have hp:iX r x d=qj r (kA r r3 (bO r d).Counts) d:=by simp only [iX,hL,e3];rfl
  have ho:kA r r3 (bO r d).Counts=r5:=by unfold kA;rw [←hr4,←hr5,h4];rfl
  rw [hp,ho,hL]
  unfold qj
  rw [←e2,hr6]
  cases d.Typ==1 <;> cases r2 <;> rfl
def EA:FuncId×Ctr:=(361,af KE yz q2L Ga)
theorem Hp:CtrOK Tryz.prog KE 361 (af KE yz q2L Ga):=by
 refine ax (C:=an [cV,tA,xK,Ir,BB,k51,xI] Tryz.f361) (al (.consU fH rfl (.consU z6 rfl (.consU CW rfl (.consU JJ rfl (.consU EX rfl (.consU LB rfl (.consU CU rfl .nil))))))) _) mixed (fn:=Tryz.f361) Tryz.func361 (by kernel_rfl) (by kernel_rfl) (by kernel_rfl) (by kernel_rfl) (by kernel_rfl) (by kernel_rfl) (Λ:=fun _ _=>none) ?_ ?_
 ·exact fun _ _ _ _ _ _ _ _ h=>by cases h
 ·rintro ⟨r,x,d,⟨⟩⟩ hw hn
  exact FH r x d (hn _ List.mem_cons_self)
end Go.Proofs.YthaeofeigglbhaaGreatDoor
namespace Go.Proofs.YthaeofeigglbhaaGreatDoor
open Go Go.Mir
attribute [local irreducible] Go.Mir.DT.sat Go.Mir.evPat
def JN:Ty:= .prod .str (.prod (.int .u8) .unit)
def ixW (s:ByteArray) (c:Int):Int:=Lib.indexByte s.data.toList c.toNat.toUInt8
def Gp:Den JN→PRes:=fun x=>⟨[],.int .i64 (ixW x.1 x.2.1),[]⟩
def qx:FuncId×Ctr:=(174,ar KE JN Gp)
def oJ (d:Delivery):Int:=
 if decide (d.Typ<1) ||(decide (d.Typ>3) ||(decide (d.Source>3)||decide (d.How>10))) then 3
 else if !inW d.Runs 0 7 ||(!inW d.Short 0 d.Runs ||(d.Boundary != 0&&(d.Boundary != 4&&d.Boundary != 6) ||(!inW d.Victim 0 2 ||(!inW d.Fielder 0 11 ||(!inW d.Second 0 11||!inW d.Sector 0 8))))) then 2 else 0
def FY:Den (tyP qD)→List Prop×Den (tyP bn):=fun x=>([],(oJ x.1,()))
def formsW:List event_form:= [⟨⟨#[84,79,83,83]⟩,⟨#[115,121]⟩,⟨#[66,65,84]⟩,⟨#[70,73,69,76,68]⟩⟩,⟨⟨#[79,80,69,78]⟩,⟨#[112,111]⟩,⟨#[]⟩,⟨#[]⟩⟩,⟨⟨#[66,79,87,76]⟩,⟨#[112]⟩,⟨#[]⟩,⟨#[]⟩⟩,⟨⟨#[66,65,76,76]⟩,⟨#[98]⟩,⟨#[]⟩,⟨#[]⟩⟩,⟨⟨#[69,78,84,69,82]⟩,⟨#[112]⟩,⟨#[]⟩,⟨#[]⟩⟩,⟨⟨#[82,69,84,73,82,69]⟩,⟨#[112,121]⟩,⟨#[72,85,82,84]⟩,⟨#[79,85,84]⟩⟩,⟨⟨#[70,73,69,76,68]⟩,⟨#[114]⟩,⟨#[]⟩,⟨#[]⟩⟩,⟨⟨#[75,69,69,80,69,82]⟩,⟨#[112]⟩,⟨#[]⟩,⟨#[]⟩⟩,⟨⟨#[83,85,66]⟩,⟨#[112,121]⟩,⟨#[79,78]⟩,⟨#[79,70,70]⟩⟩,⟨⟨#[78,69,87,66,65,76,76]⟩,⟨#[]⟩,⟨#[]⟩,⟨#[]⟩⟩,⟨⟨#[68,69,67,76,65,82,69]⟩,⟨#[115]⟩,⟨#[]⟩,⟨#[]⟩⟩,⟨⟨#[70,79,76,76,79,87]⟩,⟨#[115,121]⟩,⟨#[89,69,83]⟩,⟨#[78,79]⟩⟩,⟨⟨#[80,69,78,65,76,84,89]⟩,⟨#[115,114]⟩,⟨#[]⟩,⟨#[]⟩⟩,⟨⟨#[82,69,86,73,69,87]⟩,⟨#[115,121]⟩,⟨#[75,69,80,84]⟩,⟨#[76,79,83,84]⟩⟩,⟨⟨#[82,69,86,73,83,69]⟩,⟨#[114,118]⟩,⟨#[]⟩,⟨#[]⟩⟩,⟨⟨#[83,84,79,80]⟩,⟨#[]⟩,⟨#[]⟩,⟨#[]⟩⟩]
def Bj (k:Int):ByteArray:=(formsW.getD (k - 1).toNat event_form.zero).fields
def loW (k:Int):Int:=if k==13 then 1 else 0
def hiW (k:Int):Int:=if k==7 then 11 else if k==13 then 99 else 100000
abbrev qKF:Pat:=cm [U8,U8]
def b7 (k c:Int):Bool:=decide (ixW (Bj k) c≥0) ||(k==5&&c==121)
def aP (k:Int):Prop:=1≤k∧k≤16
def Gl:Den (tyP qKF)→List Prop×Den (tyP aC):=fun x=>([aP x.1],(b7 x.1 x.2.1,()))
abbrev qII:Pat:=cm [I,I]
def vS:Den (tyP qH)→List Prop×Den (tyP qII):=fun x=>([],(loW x.1,hiW x.1,()))
abbrev HU:Pat:=cm [.slice (.nm .event_form)]
def AR:Den (tyP (cm []))→List Prop×Den (tyP HU):=fun _=>([],(formsW,()))
def uf (k:Int):Bool:=k==1||k==12||k==14||k==11||k==13
def pA (k:Int):Bool:=k==2||k==3||k==8||k==5||k==6||k==9
def vF (k:Int):Bool:=k==2
def Kg (k:Int):Bool:=k==1||k==12||k==14||k==5||k==6||k==9
def Cn (k:Int):Bool:=k==7||k==13||k==15
def vG (k:Int):Bool:=k==15
def sV (k:Int):Bool:=k==4
def GF (d:Delivery):Bool:=d.Typ==0&&(d.Source==0&&(d.Runs==0&&(d.Short==0&&(d.Boundary==0&&(d.Crossed==false&&(d.How==0&&(d.Victim==0&&(d.Fielder==0&&(d.Second==0&&(d.Sub==false&&d.Sector==0))))))))))
def bc (e:Mir.Event):Int:=
 if !inW e.Kind 1 16 then 3
 else if !uf e.Kind&&e.Side != 0||!pA e.Kind&&e.Player != 0||!vF e.Kind&&e.Other != 0||!Kg e.Kind&&e.Yes||!Cn e.Kind&&e.Runs != 0||!vG e.Kind&&e.Overs != 0||!sV e.Kind&&!GF e.Ball then 1
 else if uf e.Kind&&!inW e.Side 1 2||pA e.Kind&&!inW e.Player 1 11||vF e.Kind&&!inW e.Other 1 11||Cn e.Kind&&!inW e.Runs (loW e.Kind) (hiW e.Kind)||vG e.Kind&&!inW e.Overs 0 90 then 2
 else if sV e.Kind then oJ e.Ball else 0
abbrev qE:Pat:=cm [.nm .Event]
def sEv:Den (tyP qE)→List Prop×Den (tyP bn):=fun x=>([],(bc x.1,()))
theorem Iq :∀ (l:List UInt8) (c:UInt8),Lib.indexByte l c≤l.length
 | [],c=>by unfold Lib.indexByte;simp
 | b::l,c=>by
  have:=Iq l c
  unfold Lib.indexByte
  simp only [List.length_cons]
  split
  ·omega
  ·split <;> omega
def xQ:Go.Shelf.Ren:=⟨fun|137=>174|217=>257|266=>318|n=>n,fun|9=>9|5=>5|3=>3|n=>n,fun|n=>n⟩
theorem GV:Go.Proofs.Lays.n137 Tryz.prog xQ where
 mixed:=by kernel_rfl
 f137:=Tryz.func174.trans (congrArg some (by kernel_rfl))
 f217:=Tryz.func257.trans (congrArg some (by kernel_rfl))
 f266:=Tryz.func318.trans (congrArg some (by kernel_rfl))
 t3:=Tryz.underlying3
 a3:=Tryz.isAgg3
 z3:=Tryz.sizeOf3
 v3:=Tryz.zeroValue3
 t5:=Tryz.underlying5
 a5:=Tryz.isAgg5
 z5:=Tryz.sizeOf5
 v5:=Tryz.zeroValue5
 t9:=Tryz.underlying9
 a9:=Tryz.isAgg9
 z9:=Tryz.sizeOf9
 v9:=Tryz.zeroValue9
theorem x6:CtrOK Tryz.prog KE 174 (ar KE JN Gp):=by
 refine DX Tryz.func174 (by kernel_rfl) (by kernel_rfl) (fun _=>⟨rfl,rfl⟩) (fun x av w E hw _ hav=>?_) (fun _ _=>rfl)
 obtain ⟨s,c,⟨⟩⟩:=x
 obtain ⟨a,r,rfl,h1,h2⟩:=mZ hav
 obtain ⟨b,r2,rfl,h3,h4⟩:=mZ h2
 have h5:r2=[]:=by cases r2 with|nil=>rfl|cons=>simp [bh,ae] at h4
 subst h5
 simp only [eA,aa] at h1 h3
 obtain ⟨rfl,hs⟩:=h1
 obtain ⟨rfl,hc⟩:=h3
 refine (Any.strings_IndexByte GV s c w).mono fun e w' ⟨h6,h7⟩=>⟨_,h6,h7,fun E'=>?_⟩
 refine gg ?_
 have hge:=Lib.indexByte_ge s.data.toList c.toNat.toUInt8
 have hle:=Iq s.data.toList c.toNat.toUInt8
 have hl:s.data.toList.length≤aW:=by rw [Array.length_toList];exact hs
 unfold aW at hl
 have e1:IntKind.i64.min = -9223372036854775808:=by decide
 have e2:IntKind.i64.max=9223372036854775807:=by decide
 unfold ok
 rw [e1,e2]
 show _≤ixW s c∧ixW s c≤_
 unfold ixW
 omega
theorem yW (n:Int) (lo:Int) (hi:Int) :(evPat (an [] Tryz.f288) (fun _=>none) Tryz.f288 q3 aC (n,lo,hi,())).sat fun z_=>z_ =(sIn (n,lo,hi,())).2:=by
 refine cast (by kernel_rfl) (?_ :(bif decide (n≥lo) then decide (n≤hi) else false,()) =(inW n lo hi,()))
 grind [inW]
def tG:FuncId×Ctr:=(288,af KE q3 aC sIn)
theorem Ad:CtrOK Tryz.prog KE 288 (af KE q3 aC sIn):=by
 refine ax (C:=an [] Tryz.f288) (al (CtrsOK.nil) _) mixed (fn:=Tryz.f288) Tryz.func288 (by kernel_rfl) (by kernel_rfl) (by kernel_rfl) (by kernel_rfl) (by kernel_rfl) (by kernel_rfl) (Λ:=fun _ _=>none) ?_ ?_
 ·exact fun _ _ _ _ _ _ _ _ h=>by cases h
 ·rintro ⟨n,lo,hi,⟨⟩⟩ hw hn
  exact yW n lo hi
theorem yI (n:Int) (lo:Int) (hi:Int) :(evPat (an [] Tryz.f212) (fun _=>none) Tryz.f212 q3 aC (n,lo,hi,())).sat fun z_=>z_ =(sIn (n,lo,hi,())).2:=by
 refine cast (by kernel_rfl) (?_ :(bif decide (n≥lo) then decide (n≤hi) else false,()) =(inW n lo hi,()))
 grind [inW]
def gq:FuncId×Ctr:=(212,af KE q3 aC sIn)
theorem mS:CtrOK Tryz.prog KE 212 (af KE q3 aC sIn):=by
 refine ax (C:=an [] Tryz.f212) (al (CtrsOK.nil) _) mixed (fn:=Tryz.f212) Tryz.func212 (by kernel_rfl) (by kernel_rfl) (by kernel_rfl) (by kernel_rfl) (by kernel_rfl) (by kernel_rfl) (Λ:=fun _ _=>none) ?_ ?_
 ·exact fun _ _ _ _ _ _ _ _ h=>by cases h
 ·rintro ⟨n,lo,hi,⟨⟩⟩ hw hn
  exact yI n lo hi
theorem Dy (d:Delivery) :(evPat (an [tG] Tryz.f214) (fun _=>none) Tryz.f214 qD bn (d,())).sat fun z_=>z_ =(FY (d,())).2:=by
 refine cast (by kernel_rfl) (?_:let r1:Bool:=bif !inW d.8 (0:Int) (2:Int) then true else bif !inW d.9 (0:Int) (11:Int) then true else bif !inW d.10 (0:Int) (11:Int) then true else !inW d.12 (0:Int) (8:Int);let r2:Bool:=bif decide (d.1 <(1:Int)) then true else bif decide (d.1 >(3:Int)) then true else bif decide (d.2 >(3:Int)) then true else decide (d.7 >(10:Int));let r3:Bool:=bif !inW d.3 (0:Int) (7:Int) then true else bif !inW d.4 (0:Int) d.3 then true else bif d.5 !=(0:Int) then bif d.5 !=(4:Int) then bif d.5 !=(6:Int) then true else r1 else r1 else r1;(r2=true→((3:Int),()) =(oJ d,()))∧(r2=false→(r3=true→((2:Int),()) =(oJ d,()))∧(r3=false→((0:Int),()) =(oJ d,()))))
 intro r1 r2 r3
 clear_value (hr1:r1=_) (hr2:r2=_) (hr3:r3=_)
 repeat' (first|refine And.intro ?_ ?_|intro h)
 all_goals grind (splits:=40) [oJ]
def lO:FuncId×Ctr:=(214,af KE qD bn FY)
theorem ra:CtrOK Tryz.prog KE 214 (af KE qD bn FY):=by
 refine ax (C:=an [tG] Tryz.f214) (al (.consU Ad rfl .nil) _) mixed (fn:=Tryz.f214) Tryz.func214 (by kernel_rfl) (by kernel_rfl) (by kernel_rfl) (by kernel_rfl) (by kernel_rfl) (by kernel_rfl) (Λ:=fun _ _=>none) ?_ ?_
 ·exact fun _ _ _ _ _ _ _ _ h=>by cases h
 ·rintro ⟨d,⟨⟩⟩ hw hn
  exact Dy d
theorem Df :(evPat (an [] Tryz.f191) (fun _=>none) Tryz.f191 (cm []) HU ()).sat fun z_=>z_ =(AR ()).2:=by
 refine cast (by kernel_rfl) (?_ :([event_form.mk (ByteArray.mk #[84,79,83,83]) (ByteArray.mk #[115,121]) (ByteArray.mk #[66,65,84]) (ByteArray.mk #[70,73,69,76,68]),event_form.mk (ByteArray.mk #[79,80,69,78]) (ByteArray.mk #[112,111]) (ByteArray.mk #[]) (ByteArray.mk #[]),event_form.mk (ByteArray.mk #[66,79,87,76]) (ByteArray.mk #[112]) (ByteArray.mk #[]) (ByteArray.mk #[]),event_form.mk (ByteArray.mk #[66,65,76,76]) (ByteArray.mk #[98]) (ByteArray.mk #[]) (ByteArray.mk #[]),event_form.mk (ByteArray.mk #[69,78,84,69,82]) (ByteArray.mk #[112]) (ByteArray.mk #[]) (ByteArray.mk #[]),event_form.mk (ByteArray.mk #[82,69,84,73,82,69]) (ByteArray.mk #[112,121]) (ByteArray.mk #[72,85,82,84]) (ByteArray.mk #[79,85,84]),event_form.mk (ByteArray.mk #[70,73,69,76,68]) (ByteArray.mk #[114]) (ByteArray.mk #[]) (ByteArray.mk #[]),event_form.mk (ByteArray.mk #[75,69,69,80,69,82]) (ByteArray.mk #[112]) (ByteArray.mk #[]) (ByteArray.mk #[]),event_form.mk (ByteArray.mk #[83,85,66]) (ByteArray.mk #[112,121]) (ByteArray.mk #[79,78]) (ByteArray.mk #[79,70,70]),event_form.mk (ByteArray.mk #[78,69,87,66,65,76,76]) (ByteArray.mk #[]) (ByteArray.mk #[]) (ByteArray.mk #[]),event_form.mk (ByteArray.mk #[68,69,67,76,65,82,69]) (ByteArray.mk #[115]) (ByteArray.mk #[]) (ByteArray.mk #[]),event_form.mk (ByteArray.mk #[70,79,76,76,79,87]) (ByteArray.mk #[115,121]) (ByteArray.mk #[89,69,83]) (ByteArray.mk #[78,79]),event_form.mk (ByteArray.mk #[80,69,78,65,76,84,89]) (ByteArray.mk #[115,114]) (ByteArray.mk #[]) (ByteArray.mk #[]),event_form.mk (ByteArray.mk #[82,69,86,73,69,87]) (ByteArray.mk #[115,121]) (ByteArray.mk #[75,69,80,84]) (ByteArray.mk #[76,79,83,84]),event_form.mk (ByteArray.mk #[82,69,86,73,83,69]) (ByteArray.mk #[114,118]) (ByteArray.mk #[]) (ByteArray.mk #[]),event_form.mk (ByteArray.mk #[83,84,79,80]) (ByteArray.mk #[]) (ByteArray.mk #[]) (ByteArray.mk #[])],()) =(formsW,()))
 rfl
def BC:FuncId×Ctr:=(191,af KE (cm []) HU AR)
theorem EY:CtrOK Tryz.prog KE 191 (af KE (cm []) HU AR):=by
 refine ax (C:=an [] Tryz.f191) (al (CtrsOK.nil) _) mixed (fn:=Tryz.f191) Tryz.func191 (by kernel_rfl) (by kernel_rfl) (by kernel_rfl) (by kernel_rfl) (by kernel_rfl) (by kernel_rfl) (Λ:=fun _ _=>none) ?_ ?_
 ·exact fun _ _ _ _ _ _ _ _ h=>by cases h
 ·rintro ⟨⟩ hw hn
  exact Df
theorem Ay (k:Int) :(evPat (an [] Tryz.f211) (fun _=>none) Tryz.f211 qH qII (k,())).sat fun z_=>z_ =(vS (k,())).2:=by
 refine cast (by kernel_rfl) (?_ :((k ==(7:Int))=true→((0:Int),(11:Int),()) =(loW k,hiW k,()))∧((k ==(7:Int))=false→((k ==(13:Int))=true→((1:Int),(99:Int),()) =(loW k,hiW k,()))∧((k ==(13:Int))=false→((0:Int),(100000:Int),()) =(loW k,hiW k,()))))
 grind [loW,hiW]
def iM:FuncId×Ctr:=(211,af KE qH qII vS)
theorem od:CtrOK Tryz.prog KE 211 (af KE qH qII vS):=by
 refine ax (C:=an [] Tryz.f211) (al (CtrsOK.nil) _) mixed (fn:=Tryz.f211) Tryz.func211 (by kernel_rfl) (by kernel_rfl) (by kernel_rfl) (by kernel_rfl) (by kernel_rfl) (by kernel_rfl) (Λ:=fun _ _=>none) ?_ ?_
 ·exact fun _ _ _ _ _ _ _ _ h=>by cases h
 ·rintro ⟨k,⟨⟩⟩ hw hn
  exact Ay k
theorem FF (k:Int) (c:Int) (hk:aP k) :(evPat (an [BC,qx] Tryz.f213) (fun _=>none) Tryz.f213 qKF aC (k,c,())).sat fun z_=>z_ =(Gl (k,c,())).2:=by
 refine cast (by kernel_rfl) (?_:let r1:Int:=IntKind.u8.wrap (k - (1:Int));let r2:Int:=ixW (formsW.getD r1.toNat (dflt (Ty.nm Nm.event_form))).2 c;let r3:Bool:=decide (r2≥(0:Int));(((0:Int)≤r1∧r1 <(↑formsW.length:Int))∧(r3=true→True)∧(r3=false→((k ==(5:Int))=true→True)∧((k ==(5:Int))=false→True)))∧(true=true→(bif r3 then true else bif k ==(5:Int) then c ==(121:Int) else false,()) =(b7 k c,())))
 intro r1 r2 r3
 clear_value (hr1:r1=_) (hr2:r2=_) (hr3:r3=_)
 obtain ⟨h1,h2⟩:=hk
 have hw:IntKind.u8.wrap (k - 1)=k - 1:=by
  simp only [IntKind.wrap,IntKind.bits,IntKind.signed]
  simp
  omega
 have hl:formsW.length=16:=rfl
 simp only [hw] at *
 have hd:dflt (Ty.nm Nm.event_form)=event_form.zero:=rfl
 refine ⟨⟨⟨by omega,by rw [hl];omega⟩,fun _=>trivial,fun _=>⟨fun _=>trivial,fun _=>trivial⟩⟩,fun _=>?_⟩
 simp only [b7,Bj,hr1,hr2,hr3,hd]
 grind
def nV:FuncId×Ctr:=(213,af KE qKF aC Gl)
theorem vy:CtrOK Tryz.prog KE 213 (af KE qKF aC Gl):=by
 refine ax (C:=an [BC,qx] Tryz.f213) (al (.consU EY rfl (.consU x6 rfl .nil)) _) mixed (fn:=Tryz.f213) Tryz.func213 (by kernel_rfl) (by kernel_rfl) (by kernel_rfl) (by kernel_rfl) (by kernel_rfl) (by kernel_rfl) (Λ:=fun _ _=>none) ?_ ?_
 ·exact fun _ _ _ _ _ _ _ _ h=>by cases h
 ·rintro ⟨k,c,⟨⟩⟩ hw hn
  exact FF k c (hn _ List.mem_cons_self)
theorem Jo {k:Int} {p:Int→Prop} (h :∀ n:Fin 16,p ((n.val:Int)+1)) (h1:1≤k) (h2:k≤16):p k:=by
 have:=h ⟨(k - 1).toNat,by omega⟩
 have e :((k - 1).toNat:Int)+1=k:=by omega
 exact (congrArg p e).mp this
theorem GA {k:Int} (h1:1≤k) (h2:k≤16):b7 k 115=uf k∧b7 k 112=pA k∧b7 k 111=vF k∧b7 k 121=Kg k∧b7 k 114=Cn k∧b7 k 118=vG k∧b7 k 98=sV k:=
 Jo (p:=fun k=>b7 k 115=uf k∧b7 k 112=pA k∧b7 k 111=vF k∧b7 k 121=Kg k∧b7 k 114=Cn k∧b7 k 118=vG k∧b7 k 98=sV k) (by decide +kernel) h1 h2
theorem De (e:Mir.Event) :(evPat (an [iM,gq,nV,lO] Tryz.f134) (find [(rid (aE Tryz.f134 0),bp 8 (an [iM,gq,nV,lO] Tryz.f134) (fun _=>none) (aE Tryz.f134 0)),(rid (aE Tryz.f134 1),bp 8 (an [iM,gq,nV,lO] Tryz.f134) (fun _=>none) (aE Tryz.f134 1))]) Tryz.f134 qE bn (e,())).sat fun z_=>z_ =(sEv (e,())).2:=by
 refine cast (by kernel_rfl) (?_:let r1:Bool:=!inW e.2 (1:Int) (2:Int);let r2:Bool:=!inW e.3 (1:Int) (11:Int);let r3:Bool:=!inW e.4 (1:Int) (11:Int);let r4:Bool:=!inW e.7 (0:Int) (90:Int);let r5:Bool:=bif !!e.5 then !b7 e.1 (121:Int) else false;let r6:Int:=IntKind.i64.wrap ((0:Int) +(1:Int));let r7:Bool:=bif !inW e.6 (loW e.1) (hiW e.1) then b7 e.1 (114:Int) else false;let r8:Bool:=bif !e.2 ==(0:Int) then !b7 e.1 (115:Int) else false;let r9:Bool:=bif !e.3 ==(0:Int) then !b7 e.1 (112:Int) else false;let r10:Bool:=bif !e.4 ==(0:Int) then !b7 e.1 (111:Int) else false;let r11:Bool:=bif !e.6 ==(0:Int) then !b7 e.1 (114:Int) else false;let r12:Bool:=bif !e.7 ==(0:Int) then !b7 e.1 (118:Int) else false;let r13:Bool:=bif r1 then b7 e.1 (115:Int) else false;let r14:Bool:=bif r2 then b7 e.1 (112:Int) else false;let r15:Bool:=bif r3 then b7 e.1 (111:Int) else false;let r16:Bool:=bif r4 then b7 e.1 (118:Int) else false;let r17:Int:=IntKind.i64.wrap (r6 +(1:Int));let r18:Bool:=bif decide (e.1 <(1:Int)) then true else decide (e.1 >(16:Int));let r19:Int:=IntKind.i64.wrap (r17 +(1:Int));let r20:Int:=IntKind.i64.wrap (r19 +(1:Int));let r21:Int:=IntKind.i64.wrap (r20 +(1:Int));let r22:Int:=IntKind.i64.wrap (r21 +(1:Int));let r23:Bool:=e.8.1 ==(0:Int)&&(e.8.2 ==(0:Int)&&(e.8.3 ==(0:Int)&&(e.8.4 ==(0:Int)&&(e.8.5 ==(0:Int)&&(e.8.6==false&&(e.8.7 ==(0:Int)&&(e.8.8 ==(0:Int)&&(e.8.9 ==(0:Int)&&(e.8.10 ==(0:Int)&&(e.8.11==false&&(e.8.12 ==(0:Int)&&true)))))))))));let r24:Bool:=!r23;let r25:Bool:=bif r24 then !b7 e.1 (98:Int) else false;let r26:Int:=(↑[((115:Int),e.2 ==(0:Int),inW e.2 (1:Int) (2:Int),()),((112:Int),e.3 ==(0:Int),inW e.3 (1:Int) (11:Int),()),((111:Int),e.4 ==(0:Int),inW e.4 (1:Int) (11:Int),()),((121:Int),!e.5,true,()),((114:Int),e.6 ==(0:Int),inW e.6 (loW e.1) (hiW e.1),()),((118:Int),e.7 ==(0:Int),inW e.7 (0:Int) (90:Int),()),((98:Int),r23,true,())].length:Int);(r18=true→((3:Int),()) =(bc e,()))∧(r18=false→True∧((0:Int)≤(0:Int)∧(0:Int)<r26)∧(((!e.2 ==(0:Int))=true→((1:Int)≤e.1∧e.1≤(16:Int))∧True)∧((!e.2 ==(0:Int))=false→True))∧(true=true→(r8=true→((1:Int),()) =(bc e,()))∧(r8=false→((0:Int)≤r6∧r6<r26)∧(((!e.3 ==(0:Int))=true→((1:Int)≤e.1∧e.1≤(16:Int))∧True)∧((!e.3 ==(0:Int))=false→True))∧(true=true→(r9=true→((1:Int),()) =(bc e,()))∧(r9=false→((0:Int)≤r17∧r17<r26)∧(((!e.4 ==(0:Int))=true→((1:Int)≤e.1∧e.1≤(16:Int))∧True)∧((!e.4 ==(0:Int))=false→True))∧(true=true→(r10=true→((1:Int),()) =(bc e,()))∧(r10=false→((0:Int)≤r19∧r19<r26)∧(((!!e.5)=true→((1:Int)≤e.1∧e.1≤(16:Int))∧True)∧((!!e.5)=false→True))∧(true=true→(r5=true→((1:Int),()) =(bc e,()))∧(r5=false→((0:Int)≤r20∧r20<r26)∧(((!e.6 ==(0:Int))=true→((1:Int)≤e.1∧e.1≤(16:Int))∧True)∧((!e.6 ==(0:Int))=false→True))∧(true=true→(r11=true→((1:Int),()) =(bc e,()))∧(r11=false→((0:Int)≤r21∧r21<r26)∧(((!e.7 ==(0:Int))=true→((1:Int)≤e.1∧e.1≤(16:Int))∧True)∧((!e.7 ==(0:Int))=false→True))∧(true=true→(r12=true→((1:Int),()) =(bc e,()))∧(r12=false→((0:Int)≤r22∧r22<r26)∧((r24=true→((1:Int)≤e.1∧e.1≤(16:Int))∧True)∧(r24=false→True))∧(true=true→(r25=true→((1:Int),()) =(bc e,()))∧(r25=false→True∧((0:Int)≤(0:Int)∧(0:Int)<r26)∧((r1=true→((1:Int)≤e.1∧e.1≤(16:Int))∧True)∧(r1=false→True))∧(true=true→(r13=true→((2:Int),()) =(bc e,()))∧(r13=false→((0:Int)≤r6∧r6<r26)∧((r2=true→((1:Int)≤e.1∧e.1≤(16:Int))∧True)∧(r2=false→True))∧(true=true→(r14=true→((2:Int),()) =(bc e,()))∧(r14=false→((0:Int)≤r17∧r17<r26)∧((r3=true→((1:Int)≤e.1∧e.1≤(16:Int))∧True)∧(r3=false→True))∧(true=true→(r15=true→((2:Int),()) =(bc e,()))∧(r15=false→((0:Int)≤r19∧r19<r26)∧(((!true)=true→((1:Int)≤e.1∧e.1≤(16:Int))∧True)∧((!true)=false→True))∧(true=true→((bif !true then b7 e.1 (121:Int) else false)=true→((2:Int),()) =(bc e,()))∧((bif !true then b7 e.1 (121:Int) else false)=false→((0:Int)≤r20∧r20<r26)∧(((!inW e.6 (loW e.1) (hiW e.1))=true→((1:Int)≤e.1∧e.1≤(16:Int))∧True)∧((!inW e.6 (loW e.1) (hiW e.1))=false→True))∧(true=true→(r7=true→((2:Int),()) =(bc e,()))∧(r7=false→((0:Int)≤r21∧r21<r26)∧((r4=true→((1:Int)≤e.1∧e.1≤(16:Int))∧True)∧(r4=false→True))∧(true=true→(r16=true→((2:Int),()) =(bc e,()))∧(r16=false→((0:Int)≤r22∧r22<r26)∧(((!true)=true→((1:Int)≤e.1∧e.1≤(16:Int))∧True)∧((!true)=false→True))∧(true=true→((bif !true then b7 e.1 (98:Int) else false)=true→((2:Int),()) =(bc e,()))∧((bif !true then b7 e.1 (98:Int) else false)=false→((e.1 ==(4:Int))=true→(oJ e.8,()) =(bc e,()))∧((e.1 ==(4:Int))=false→((0:Int),()) =(bc e,()))))))))))))))))))))))))))))))))
 intro r1 r2 r3 r4 r5 r6 r7 r8 r9 r10 r11 r12 r13 r14 r15 r16 r17 r18 r19 r20 r21 r22 r23 r24 r25 r26
 clear_value (hr1:r1=_) (hr2:r2=_) (hr3:r3=_) (hr4:r4=_) (hr5:r5=_) (hr6:r6=_) (hr7:r7=_) (hr8:r8=_) (hr9:r9=_) (hr10:r10=_) (hr11:r11=_) (hr12:r12=_) (hr13:r13=_) (hr14:r14=_) (hr15:r15=_) (hr16:r16=_) (hr17:r17=_) (hr18:r18=_) (hr19:r19=_) (hr20:r20=_) (hr21:r21=_) (hr22:r22=_) (hr23:r23=_) (hr24:r24=_) (hr25:r25=_) (hr26:r26=_)
 have h6:r6=1:=hr6
 have h17:r17=2:=by rw [hr17,h6];rfl
 have h19:r19=3:=by rw [hr19,h17];rfl
 have h20:r20=4:=by rw [hr20,h19];rfl
 have h21:r21=5:=by rw [hr21,h20];rfl
 have h22:r22=6:=by rw [hr22,h21];rfl
 have h26:r26=7:=hr26
 clear hr6 hr17 hr19 hr20 hr21 hr22 hr26
 have hz:r23=GF e.8:=by rw [hr23];simp only [GF,Bool.and_true]
 refine ⟨fun h=>?_,fun h=>?_⟩
 ·have:inW e.1 1 16=false:=by grind [inW]
  simp [bc,this]
 ·have hk:1≤e.1∧e.1≤16:=by grind
  obtain ⟨u1,u2,u3,u4,u5,u6,u7⟩:=GA hk.1 hk.2
  simp only [u1,u2,u3,u4,u5,u6,u7] at hr5 hr7 hr8 hr9 hr10 hr11 hr12 hr13 hr14 hr15 hr16 hr25 ⊢
  have hi:inW e.1 1 16=true:=by grind [inW]
  have e0:bc e=if r8||r9||r10||r5||r11||r12||r25 then 1 else if r13||r14||r15||r7||r16 then 2 else if sV e.1 then oJ e.8 else 0:=by
   have t1 :∀ a b:Bool,(bif !a then !b else false) =(!b&&!a):=by decide
   have t2 :∀ a b:Bool,(bif a then b else false) =(b&&a):=by decide
   rw [t1] at hr8 hr9 hr10 hr11 hr12 hr5
   rw [hr24,t1,hz] at hr25
   rw [t2] at hr13 hr14 hr15 hr7 hr16
   rw [hr1] at hr13
   rw [hr2] at hr14
   rw [hr3] at hr15
   rw [hr4] at hr16
   rw [Bool.not_not] at hr5
   rw [hr8,hr9,hr10,hr5,hr11,hr12,hr25,hr13,hr14,hr15,hr7,hr16]
   unfold bc
   rw [hi]
   rfl
  clear hr1 hr2 hr3 hr4 hr5 hr7 hr8 hr9 hr10 hr11 hr12 hr13 hr14 hr15 hr16 hr18 hr23 hr24 hr25
  rw [e0]
  simp only [h6,h17,h19,h20,h21,h22,h26]
  clear u1 u2 u3 u4 u5 u6 u7 e0 hz
  repeat' (first|refine And.intro ?_ ?_|intro _)
  all_goals first|omega |(simp_all [sV];done)
def jz:FuncId×Ctr:=(134,af KE qE bn sEv)
theorem nv:CtrOK Tryz.prog KE 134 (af KE qE bn sEv):=by
 refine ax (C:=an [iM,gq,nV,lO] Tryz.f134) (al (.consU od rfl (.consU mS rfl (.consU vy rfl (.consU ra rfl .nil)))) _) mixed (fn:=Tryz.f134) Tryz.func134 (by kernel_rfl) (by kernel_rfl) (by kernel_rfl) (by kernel_rfl) (by kernel_rfl) (by kernel_rfl) (Λ:=fun x=>find [(rid (aE Tryz.f134 0),bp 8 (an [iM,gq,nV,lO] Tryz.f134) (fun _=>none) (aE Tryz.f134 0)),(rid (aE Tryz.f134 1),bp 8 (an [iM,gq,nV,lO] Tryz.f134) (fun _=>none) (aE Tryz.f134 1))]) ?_ ?_
 ·rintro ⟨e,⟨⟩⟩ hw hn
  exact LoopsOKp.at (by kernel_rfl) (.cons (by kernel_rfl) (eo 8 (al (.consU od rfl (.consU mS rfl (.consU vy rfl (.consU ra rfl .nil)))) _) mixed (Λ:=fun _=>none) (b:=aE Tryz.f134 0) rfl (fun _ _ _ h=>by cases h)) (.cons (by kernel_rfl) (eo 8 (al (.consU od rfl (.consU mS rfl (.consU vy rfl (.consU ra rfl .nil)))) _) mixed (Λ:=fun _=>none) (b:=aE Tryz.f134 1) rfl (fun _ _ _ h=>by cases h)) .nil))
 ·rintro ⟨e,⟨⟩⟩ hw hn
  exact De e
end Go.Proofs.YthaeofeigglbhaaGreatDoor
namespace Go.Proofs.YthaeofeigglbhaaGreatDoor
open Go Go.Mir
attribute [local irreducible] Go.Mir.DT.sat Go.Mir.evPat
end Go.Proofs.YthaeofeigglbhaaGreatDoor
namespace Go.Proofs.YthaeofeigglbhaaGreatDoor
open Go Go.Mir
attribute [local irreducible] Go.Mir.DT.sat Go.Mir.evPat Go.Mir.RT.sat Go.Mir.evFn
def ay (r:Rules) (x:Innings) (e:Mir.Event):Innings:=
 if e.Kind==2 then iV x e.Player e.Other else if e.Kind==3 then bE r x e.Player else if e.Kind==4 then iX r x e.Ball
 else if e.Kind==5 then (if e.Yes then mr x e.Player else jq x e.Player) else if e.Kind==6 then dq x e.Player e.Yes
 else if e.Kind==7 then au x e.Runs else if e.Kind==8 then ai x e.Player else if e.Kind==9 then aw x e.Player e.Yes
 else if e.Kind==10 then bk r x else if e.Kind==11 then m1 r x e else if e.Kind==13 then ri x e else if e.Kind==14 then ma r x e.Side e.Yes else oq r x e.Runs e.Overs
def bV (r:Rules) (x:Innings) (e:Mir.Event):Int:=
 if e.Kind==2 then kZ x e.Player e.Other else if e.Kind==3 then cI r x e.Player else if e.Kind==4 then je r x e.Ball
 else if e.Kind==5 then bF x e.Player else if e.Kind==6 then cb x e.Player e.Yes
 else if e.Kind==7 then eM x e.Runs else if e.Kind==8 then cU x e.Player else if e.Kind==9 then fU x e.Player e.Yes
 else if e.Kind==10 then vr r x else if e.Kind==11 then oA r x e else if e.Kind==13 then oe e else if e.Kind==14 then lj r x e.Side else rE r x e.Runs e.Overs
def Cp (e:Mir.Event):Prop:=e.Kind=14→iG e.Side
def F9:Den (tyP jc)→List Prop×Den (tyP q2L):=fun x=>([eV x.2.1,Cp x.2.2.1],(ay x.1 x.2.1 x.2.2.1,bV x.1 x.2.1 x.2.2.1,()))
def GI (k:Int):Bool:=inW k 2 15&&k != 12
def cL (r:Rules) (x:Innings) (e:Mir.Event):Int:=
 if !bZ r x||bc e != 0 then 1 else if x.Ending != 0 then 26 else if !GI e.Kind||!fa x&&e.Kind != 2 then 1 else bV r x e
def uX (y:Innings) (e:Mir.Event):Innings:={ y with Fresh:=e.Kind==4 }
def xp (r:Rules) (y:Innings):Innings:=if y.Ending==0 then { y with Ending:=uG r y } else y
def dw (r:Rules) (x:Innings) (e:Mir.Event):Innings:=if cL r x e != 0 then x else xp r (uX (ay r x e) e)
def Gd:Den (tyP jc)→List Prop×Den (tyP q2L):=fun x=>([ah x.2.1],(dw x.1 x.2.1 x.2.2.1,cL x.1 x.2.1 x.2.2.1,()))
theorem lz {r:Rules} {x:Innings} (h:bZ r x=true):eV x:=by
 unfold bZ at h
 simp only [Bool.and_eq_true,beq_iff_eq] at h
 obtain ⟨hc,_,hl,_,_,_,_,h1,h2,_,_⟩:=h
 obtain ⟨⟨_,hs⟩,_⟩:=ku hc
 simp only [BM,Bool.and_eq_true,beq_iff_eq] at hl
 obtain ⟨l1,l2,l3⟩:=hl
 have k1:=oB h1
 have k2:=oB h2
 have e1:x.Bowlers.length≤999999:=by rcases k1 with k|k;omega;rw [k];simp
 have e2:x.Before.length≤999999:=by rcases k2 with k|k;omega;rw [k];simp
 exact ⟨by omega,e1,e2,by omega,by omega⟩
theorem GP {e:Mir.Event} (h:bc e=0):inW e.Kind 1 16=true:=by
 cases hk:inW e.Kind 1 16 with
 | true=>rfl
 | false=>unfold bc at h;simp [hk] at h
theorem GQ {e:Mir.Event} (h:bc e=0):Cp e:=fun hk=>by
 cases hs:inW e.Side 1 2 with
 | true=>simp only [inW,Bool.and_eq_true,decide_eq_true_eq] at hs;unfold iG;omega
 | false=>
  have hu:uf e.Kind=true:=by rw [hk];rfl
  unfold bc at h
  simp only [hu,hs] at h
  exfalso
  revert h
  repeat' split
  all_goals first |(intro h;exact absurd h (by decide))|simp_all
theorem aA {c:Prop} [Decidable c] {a b:Innings} (ha:ah a) (hb:ah b):ah (if c then a else b):=by
 by_cases h:c
 ·rw [if_pos h];exact ha
 ·rw [if_neg h];exact hb
theorem gv {x:Innings} (h:ah x) (p s:Int):ah (ca x p s):=by
 obtain ⟨h1,h2,h3,h4,h5⟩:=h
 simp [ah,ca,h1,h2,h3,h4,h5]
theorem rP {x:Innings} (h:ah x) (p:Int):ah (fW x p):=by
 have:ah (if aK x p then ca x p 2 else x):=aA (gv h _ _) h
 exact this
theorem nB {x:Innings} (h:ah x) (b:Bool):ah (dG x b):=aA (c:=b=true) (a:={ x with Striker:=0 }) (b:={ x with Other:=0 }) h h
theorem DE {x:Innings} (h:ah x) (p:Int) (b:Bool):ah (oh x p b):=by
 obtain ⟨h1,h2,h3,h4,h5⟩:=h
 simp [ah,oh,h1,h2,h3,h4,h5]
theorem rj {r:Rules} {x:Innings} (e:Mir.Event) (hj:eV x):ah (ay r x e):=by
 have h:ah x:=lq hj
 have hf :∀ y,ah y→ah (qj r y e.Ball):=fun y hy=>by
  unfold qj
  exact aA hy (aA hy hy)
 have hp:ah (iX r x e.Ball):=by
  unfold iX
  refine aA h (hf _ ?_)
  have hb:ah (ao r (I8 (cB x e.Ball) (bO r e.Ball)) (bO r e.Ball).Counts):=pJ _ (tW e.Ball hj)
  unfold kA IA
  exact aA hb hb
 have k2:ah (iV x e.Player e.Other):=by
  unfold iV
  exact aA h (aA h (aA h (gv (gv h _ _) _ _)))
 have k3:ah (bE r x e.Player):=by unfold bE;exact aA h h
 have k5:ah (mr x e.Player):=by unfold mr;exact aA h (rP h _)
 have k5':ah (jq x e.Player):=by unfold jq;exact aA h (aA (gv h _ _) (gv h _ _))
 have k6:ah (dq x e.Player e.Yes):=by unfold dq;exact aA h (aA (gv (nB h _) _ _) (rP (nB h _) _))
 have k7:ah (au x e.Runs):=by unfold au;exact aA h h
 have k8:ah (ai x e.Player):=by unfold ai;exact aA h (aA h (aA h h))
 have k9:ah (aw x e.Player e.Yes):=by unfold aw;exact aA h (aA h (DE h _ _))
 have k10:ah (bk r x):=by unfold bk;exact aA h h
 have k11:ah (m1 r x e):=by unfold m1;exact aA h h
 have k13:ah (ri x e):=by unfold ri;exact aA h (aA h (aA h h))
 have k14:ah (ma r x e.Side e.Yes):=by unfold ma;exact aA h (aA h h)
 have kT:ah (H7 x e.Runs):=by unfold H7;exact aA h h
 have k15:ah (oq r x e.Runs e.Overs):=by unfold oq JP;exact aA h (aA kT kT)
 unfold ay
 exact aA k2 (aA k3 (aA hp (aA (aA k5 k5') (aA k6 (aA k7 (aA k8 (aA k9 (aA k10 (aA k11 (aA k13 (aA k14 k15)))))))))))
theorem nD {r:Rules} {x:Innings} {e:Mir.Event} (h :(cL r x e != 0)=true):dw r x e=x:=by simp only [dw,h,if_true]
theorem yO (r:Rules) (x:Innings) (e:Mir.Event) (hs:eV x) (h2:Cp e) :(evPat (an [Ex,k50,EA,tu,Bz,xJ,k67,k66,k46,k55,tw,Iv,xN,xO] Tryz.f334) (fun _=>none) Tryz.f334 jc q2L (r,x,e,())).sat fun z_=>z_ =(F9 (r,x,e,())).2:=by
 refine cast (by kernel_rfl) (?_ :((e.1 ==(2:Int))=true→ah x∧(iV x e.3 e.4,kZ x e.3 e.4,()) =(ay r x e,bV r x e,()))∧((e.1 ==(2:Int))=false→((e.1 ==(3:Int))=true→ah x∧(bE r x e.3,cI r x e.3,()) =(ay r x e,bV r x e,()))∧((e.1 ==(3:Int))=false→((e.1 ==(4:Int))=true→eV x∧(iX r x e.8,je r x e.8,()) =(ay r x e,bV r x e,()))∧((e.1 ==(4:Int))=false→((e.1 ==(5:Int))=true→(e.5=true→ah x∧(mr x e.3,bF x e.3,()) =(ay r x e,bV r x e,()))∧(e.5=false→ah x∧(jq x e.3,bF x e.3,()) =(ay r x e,bV r x e,())))∧((e.1 ==(5:Int))=false→((e.1 ==(6:Int))=true→ah x∧(dq x e.3 e.5,cb x e.3 e.5,()) =(ay r x e,bV r x e,()))∧((e.1 ==(6:Int))=false→((e.1 ==(7:Int))=true→ah x∧(au x e.6,eM x e.6,()) =(ay r x e,bV r x e,()))∧((e.1 ==(7:Int))=false→((e.1 ==(8:Int))=true→ah x∧(ai x e.3,cU x e.3,()) =(ay r x e,bV r x e,()))∧((e.1 ==(8:Int))=false→((e.1 ==(9:Int))=true→ah x∧(aw x e.3 e.5,fU x e.3 e.5,()) =(ay r x e,bV r x e,()))∧((e.1 ==(9:Int))=false→((e.1 ==(10:Int))=true→ah x∧(bk r x,vr r x,()) =(ay r x e,bV r x e,()))∧((e.1 ==(10:Int))=false→((e.1 ==(11:Int))=true→ah x∧(m1 r x e,oA r x e,()) =(ay r x e,bV r x e,()))∧((e.1 ==(11:Int))=false→((e.1 ==(13:Int))=true→ah x∧(ri x e,oe e,()) =(ay r x e,bV r x e,()))∧((e.1 ==(13:Int))=false→((e.1 ==(14:Int))=true→ah x∧iG e.2∧(ma r x e.2 e.5,lj r x e.2,()) =(ay r x e,bV r x e,()))∧((e.1 ==(14:Int))=false→ah x∧(oq r x e.6 e.7,rE r x e.6 e.7,()) =(ay r x e,bV r x e,()))))))))))))))
 have hi:=lq hs
 refine ⟨fun a2=>?_,fun n2=>⟨fun a3=>?_,fun n3=>⟨fun a4=>?_,fun n4=>⟨fun a5=>?_,fun n5=>⟨fun a6=>?_,fun n6=>⟨fun a7=>?_,fun n7=>⟨fun a8=>?_,fun n8=>⟨fun a9=>?_,fun n9=>⟨fun a10=>?_,fun n10=>⟨fun a11=>?_,fun n11=>⟨fun a13=>?_,fun n13=>⟨fun a14=>?_,fun n14=>?_⟩⟩⟩⟩⟩⟩⟩⟩⟩⟩⟩⟩
 ·exact ⟨hi,by simp only [ay,bV,a2];rfl⟩
 ·exact ⟨hi,by simp only [ay,bV,n2,a3];rfl⟩
 ·exact ⟨hs,by simp only [ay,bV,n2,n3,a4];rfl⟩
 ·exact ⟨fun y=>⟨hi,by simp only [ay,bV,n2,n3,n4,a5,y];rfl⟩,fun y=>⟨hi,by simp only [ay,bV,n2,n3,n4,a5,y];rfl⟩⟩
 ·exact ⟨hi,by simp only [ay,bV,n2,n3,n4,n5,a6];rfl⟩
 ·exact ⟨hi,by simp only [ay,bV,n2,n3,n4,n5,n6,a7];rfl⟩
 ·exact ⟨hi,by simp only [ay,bV,n2,n3,n4,n5,n6,n7,a8];rfl⟩
 ·exact ⟨hi,by simp only [ay,bV,n2,n3,n4,n5,n6,n7,n8,a9];rfl⟩
 ·exact ⟨hi,by simp only [ay,bV,n2,n3,n4,n5,n6,n7,n8,n9,a10];rfl⟩
 ·exact ⟨hi,by simp only [ay,bV,n2,n3,n4,n5,n6,n7,n8,n9,n10,a11];rfl⟩
 ·exact ⟨hi,by simp only [ay,bV,n2,n3,n4,n5,n6,n7,n8,n9,n10,n11,a13];rfl⟩
 ·exact ⟨hi,h2 (eq_of_beq a14),by simp only [ay,bV,n2,n3,n4,n5,n6,n7,n8,n9,n10,n11,n13,a14];rfl⟩
 ·exact ⟨hi,by simp only [ay,bV,n2,n3,n4,n5,n6,n7,n8,n9,n10,n11,n13,n14];rfl⟩
def tz:FuncId×Ctr:=(334,af KE jc q2L F9)
theorem zZ:CtrOK Tryz.prog KE 334 (af KE jc q2L F9):=by
 refine ax (C:=an [Ex,k50,EA,tu,Bz,xJ,k67,k66,k46,k55,tw,Iv,xN,xO] Tryz.f334) (al (.consU Hn rfl (.consU LA rfl (.consU Hp rfl (.consU zU rfl (.consU EV rfl (.consU CV rfl (.consU LI rfl (.consU LH rfl (.consU Lz rfl (.consU LC rfl (.consU zX rfl (.consU JL rfl (.consU CY rfl (.consU CZ rfl .nil)))))))))))))) _) mixed (fn:=Tryz.f334) Tryz.func334 (by kernel_rfl) (by kernel_rfl) (by kernel_rfl) (by kernel_rfl) (by kernel_rfl) (by kernel_rfl) (Λ:=fun _ _=>none) ?_ ?_
 ·exact fun _ _ _ _ _ _ _ _ h=>by cases h
 ·rintro ⟨r,x,e,⟨⟩⟩ hw hn
  exact yO r x e (hn _ List.mem_cons_self) (hn _ (List.mem_cons_of_mem _ List.mem_cons_self))
theorem FK (r:Rules) (x:Innings) (e:Mir.Event) (hs:ah x) :(evPat (an [cV,nf,jz,BG,tz,xM] Tryz.f291) (fun _=>none) Tryz.f291 jc q2L (r,x,e,())).sat fun z_=>z_ =(Gd (r,x,e,())).2:=by
 refine cast (by kernel_rfl) (?_:let r1:Bool:=bV r x e !=(0:Int);let r2:Bool:=(ay r x e).23 ==(0:Int);let r3:Bool:=bif !bZ r x then true else bc e !=(0:Int);let r4:Bool:=bif e.1 ==(1:Int) then true else bif e.1 ==(12:Int) then true else bif e.1 ==(16:Int) then true else bif !fa x then e.1 !=(2:Int) else false;let r5:Innings:=Innings.mk (ay r x e).1 (ay r x e).2 (ay r x e).3 (ay r x e).4 (ay r x e).5 (ay r x e).6 (ay r x e).7 (ay r x e).8 (ay r x e).9 (ay r x e).10 (ay r x e).11 (ay r x e).12 (ay r x e).13 (ay r x e).14 (e.1 ==(4:Int)) (ay r x e).16 (ay r x e).17 (ay r x e).18 (ay r x e).19 (ay r x e).20 (ay r x e).21 (ay r x e).22 (ay r x e).23;(ah x∧((!bZ r x)=true→True)∧((!bZ r x)=false→True))∧(true=true→(r3=true→ah x∧(x,(1:Int),()) =(dw r x e,cL r x e,()))∧(r3=false→((x.23 !=(0:Int))=true→ah x∧(x,(26:Int),()) =(dw r x e,cL r x e,()))∧((x.23 !=(0:Int))=false→(r4=true→ah x∧(x,(1:Int),()) =(dw r x e,cL r x e,()))∧(r4=false→eV x∧Cp e∧(r1=true→ah x∧(x,bV r x e,()) =(dw r x e,cL r x e,()))∧(r1=false→((r2=true→ah r5∧True)∧(r2=false→True))∧(true=true→(Innings.mk (bif r2 then (ay r x e).1 else (ay r x e).1) (bif r2 then (ay r x e).2 else (ay r x e).2) (bif r2 then (ay r x e).3 else (ay r x e).3) (bif r2 then (ay r x e).4 else (ay r x e).4) (bif r2 then (ay r x e).5 else (ay r x e).5) (Extras.mk (bif r2 then (ay r x e).6.1 else (ay r x e).6.1) (bif r2 then (ay r x e).6.2 else (ay r x e).6.2) (bif r2 then (ay r x e).6.3 else (ay r x e).6.3) (bif r2 then (ay r x e).6.4 else (ay r x e).6.4) (bif r2 then (ay r x e).6.5 else (ay r x e).6.5)) (bif r2 then (ay r x e).7 else (ay r x e).7) (bif r2 then (ay r x e).8 else (ay r x e).8) (bif r2 then (ay r x e).9 else (ay r x e).9) (bif r2 then (ay r x e).10 else (ay r x e).10) (bif r2 then (ay r x e).11 else (ay r x e).11) (bif r2 then (ay r x e).12 else (ay r x e).12) (bif r2 then (ay r x e).13 else (ay r x e).13) (bif r2 then (ay r x e).14 else (ay r x e).14) (bif r2 then e.1 ==(4:Int) else e.1 ==(4:Int)) (bif r2 then (ay r x e).16 else (ay r x e).16) (bif r2 then (ay r x e).17 else (ay r x e).17) (bif r2 then (ay r x e).18 else (ay r x e).18) (bif r2 then (ay r x e).19 else (ay r x e).19) (bif r2 then (ay r x e).20 else (ay r x e).20) (bif r2 then (ay r x e).21 else (ay r x e).21) (bif r2 then (ay r x e).22.1 else (ay r x e).22.1,bif r2 then (ay r x e).22.2.1 else (ay r x e).22.2.1,()) (bif r2 then uG r r5 else (ay r x e).23),(0:Int),()) =(dw r x e,cL r x e,()))))))))
 intro r1 r2 r3 r4 r5
 clear_value (hr1:r1=_) (hr2:r2=_) (hr3:r3=_) (hr4:r4=_) (hr5:r5=_)
 simp only [Bool.cond_self] at *
 have e3:r3 =(!bZ r x||bc e != 0):=by rw [hr3];cases bZ r x <;> rfl
 have hv:r3=false→bZ r x=true∧bc e=0:=fun h=>by
  rw [e3] at h
  simpa using h
 have e4:r3=false→r4 =(!GI e.Kind||!fa x&&e.Kind != 2):=fun h=>by
  have hk:=GP (hv h).2
  simp only [inW,Bool.and_eq_true,decide_eq_true_eq] at hk
  have :(e.Kind==1 ||(e.Kind==12||e.Kind==16))=!GI e.Kind:=by
   unfold GI inW
   by_cases k1:e.Kind=1
   ·rw [k1];rfl
   ·by_cases k2:e.Kind=12
    ·rw [k2];rfl
    ·by_cases k3:e.Kind=16
     ·rw [k3];rfl
     ·have q1:e.Kind≥2:=by omega
      have q2:e.Kind≤15:=by omega
      have b1 :(e.Kind==1)=false:=by simpa using k1
      have b2 :(e.Kind==12)=false:=by simpa using k2
      have b3 :(e.Kind==16)=false:=by simpa using k3
      simp [b1,b2,b3,q1,q2,bne]
  rw [hr4,←this]
  cases e.Kind==1 <;> cases e.Kind==12 <;> cases e.Kind==16 <;> cases fa x <;> rfl
 have h5:r5=uX (ay r x e) e:=hr5
 clear hr3 hr4 hr5
 refine ⟨⟨hs,fun _=>trivial,fun _=>trivial⟩,fun _=>⟨fun a=>⟨hs,?_⟩,fun a=>⟨fun b=>⟨hs,?_⟩,fun b=>⟨fun c=>⟨hs,?_⟩,fun c=>⟨lz (hv a).1,GQ (hv a).2,fun d=>⟨hs,?_⟩,fun d=>⟨⟨fun q=>⟨?_,trivial⟩,fun _=>trivial⟩,fun _=>?_⟩⟩⟩⟩⟩⟩
 ·have hL:cL r x e=1:=by simp only [cL,←e3,a];rfl
  rw [nD (by rw [hL];rfl),hL]
 ·have hL:cL r x e=26:=by simp only [cL,←e3,a,b];rfl
  rw [nD (by rw [hL];rfl),hL]
 ·have hL:cL r x e=1:=by simp only [cL,←e3,←e4 a,a,b,c];rfl
  rw [nD (by rw [hL];rfl),hL]
 ·have hL:cL r x e=bV r x e:=by simp only [cL,←e3,←e4 a,a,b,c];rfl
  rw [nD (by rw [hL,←hr1];exact d),hL]
 ·rw [h5];exact rj e (lz (hv a).1)
 ·have hL:cL r x e=0:=by
   have:cL r x e=bV r x e:=by simp only [cL,←e3,←e4 a,a,b,c];rfl
   rw [this]
   rw [hr1] at d
   simpa using d
  have hp:dw r x e=xp r r5:=by simp only [dw,hL,h5];rfl
  rw [hp,hL]
  have hE:r5.Ending =(ay r x e).Ending:=by rw [h5];rfl
  unfold xp
  rw [hE,←hr2]
  cases r2 with
  | true=>rw [if_pos rfl,h5];rfl
  | false=>rw [if_neg (by decide),h5];rfl
def vg:FuncId×Ctr:=(291,af KE jc q2L Gd)
theorem B1:CtrOK Tryz.prog KE 291 (af KE jc q2L Gd):=by
 refine ax (C:=an [cV,nf,jz,BG,tz,xM] Tryz.f291) (al (.consU fH rfl (.consU q7 rfl (.consU nv rfl (.consU E4 rfl (.consU zZ rfl (.consU CX rfl .nil)))))) _) mixed (fn:=Tryz.f291) Tryz.func291 (by kernel_rfl) (by kernel_rfl) (by kernel_rfl) (by kernel_rfl) (by kernel_rfl) (by kernel_rfl) (Λ:=fun _ _=>none) ?_ ?_
 ·exact fun _ _ _ _ _ _ _ _ h=>by cases h
 ·rintro ⟨r,x,e,⟨⟩⟩ hw hn
  exact FK r x e (hn _ List.mem_cons_self)
end Go.Proofs.YthaeofeigglbhaaGreatDoor
namespace Go.Proofs.YthaeofeigglbhaaGreatDoor
open Go Go.Mir
attribute [local irreducible] Go.Mir.DT.sat Go.Mir.evPat Go.Mir.RT.sat Go.Mir.evFn
abbrev vL:Pat:=cm [.nm .Rules,I,I,I]
def zg (s t p:Int):Bool:=!inW s 1 2 ||(!inW t 0 1000000||!inW p 0 1000000)
def l4 (r:Rules) (s t p:Int):Int:=if az r != 0 then az r else if zg s t p then 2 else 0
def xb {α:Type} (n:Int) (v:α):List α:=List.replicate n.toNat v
def Jb (r:Rules) (s t p:Int):Innings:={ Innings.zero with Side:=s,Target:=t,Overs:=r.Overs,Runs:=p,Extras:={ Extras.zero with Penalties:=p },Batters:=xb r.Side 0,Bowled:=xb r.Side 0,Subs:=xb r.Side false }
def my (r:Rules) (s t p:Int):Innings:=if l4 r s t p != 0 then Innings.zero else Jb r s t p
def AL:Den (tyP vL)→List Prop×Den (tyP q2L):=fun x=>([],(my x.1 x.2.1 x.2.2.1 x.2.2.2.1,l4 x.1 x.2.1 x.2.2.1 x.2.2.2.1,()))
theorem Dh (r:Rules) (s:Int) (t:Int) (p:Int) :(evPat (an [k85,cp] Tryz.f289) (fun _=>none) Tryz.f289 vL q2L (r,s,t,p,())).sat fun z_=>z_ =(AL (r,s,t,p,())).2:=by
 refine cast (by kernel_rfl) (?_:let r1:Bool:=bif !inW s (1:Int) (2:Int) then true else bif !inW t (0:Int) (1000000:Int) then true else !inW p (0:Int) (1000000:Int);let r2:Innings:=Innings.mk (0:Int) (0:Int) (0:Int) (0:Int) (0:Int) (Extras.mk (0:Int) (0:Int) (0:Int) (0:Int) (0:Int)) (0:Int) (0:Int) (0:Int) (0:Int) [] (0:Int) [] [] false [] false (0:Int) (0:Int) (0:Int) [] ((0:Int),(0:Int),()) (0:Int);((az r !=(0:Int))=true→(r2,az r,()) =(my r s t p,l4 r s t p,()))∧((az r !=(0:Int))=false→(r1=true→(r2,(2:Int),()) =(my r s t p,l4 r s t p,()))∧(r1=false→((0:Int)≤r.2∧r.2=r.2∧r.2≤(17179869184:Int))∧((0:Int)≤r.2∧r.2=r.2∧r.2≤(17179869184:Int))∧((0:Int)≤r.2∧r.2=r.2∧r.2≤(17179869184:Int))∧(Innings.mk s t r.4 p (0:Int) (Extras.mk (0:Int) (0:Int) (0:Int) (0:Int) p) (0:Int) (0:Int) (0:Int) (0:Int) (List.replicate r.2.toNat (0:Int)) (0:Int) [] [] false (List.replicate r.2.toNat (0:Int)) false (0:Int) (0:Int) (0:Int) (List.replicate r.2.toNat false) ((0:Int),(0:Int),()) (0:Int),(0:Int),()) =(my r s t p,l4 r s t p,()))))
 intro r1 r2
 clear_value (hr1:r1=_) (hr2:r2=_)
 have e1:r1=zg s t p:=by rw [hr1];unfold zg;cases inW s 1 2 <;> cases inW t 0 1000000 <;> rfl
 have e2:r2=Innings.zero:=hr2
 rw [e1,e2]
 refine ⟨fun h=>?_,fun h=>⟨fun h2=>?_,fun h2=>?_⟩⟩
 ·have hL:l4 r s t p=az r:=by simp only [l4,h,if_true]
  have hY:my r s t p=Innings.zero:=by simp only [my,hL,h,if_true]
  rw [hL,hY]
 ·have hL:l4 r s t p=2:=by simp only [l4,h,h2];rfl
  have hY:my r s t p=Innings.zero:=by simp only [my,hL];rfl
  rw [hL,hY]
 ·have hL:l4 r s t p=0:=by simp only [l4,h,h2];rfl
  have hY:my r s t p=Jb r s t p:=by simp only [my,hL];rfl
  have hr:=(ku (r:=r) (by simpa using h)).1
  have hb:0≤r.Side∧r.Side=r.Side∧r.Side≤17179869184:=⟨by omega,rfl,by omega⟩
  rw [hL,hY]
  exact ⟨hb,hb,hb,rfl⟩
def BF:FuncId×Ctr:=(289,af KE vL q2L AL)
theorem E3:CtrOK Tryz.prog KE 289 (af KE vL q2L AL):=by
 refine ax (C:=an [k85,cp] Tryz.f289) (al (.consU vw rfl (.consU dY rfl .nil)) _) mixed (fn:=Tryz.f289) Tryz.func289 (by kernel_rfl) (by kernel_rfl) (by kernel_rfl) (by kernel_rfl) (by kernel_rfl) (by kernel_rfl) (Λ:=fun _ _=>none) ?_ ?_
 ·exact fun _ _ _ _ _ _ _ _ h=>by cases h
 ·rintro ⟨r,s,t,p,⟨⟩⟩ hw hn
  exact Dh r s t p
end Go.Proofs.YthaeofeigglbhaaGreatDoor
namespace Go.Proofs.YthaeofeigglbhaaGreatDoor
open Go Go.Mir
attribute [local irreducible] Go.Mir.DT.sat Go.Mir.evPat Go.Mir.RT.sat Go.Mir.evFn
abbrev GG:Ty:= .slice (.nm .Innings)
abbrev qM:Pat:=cm [.nm .Match]
abbrev qMI:Pat:=cm [.nm .Match,I]
def dk (s:Int):Int:=W (3 - s)
def AX:Den (tyP bn)→List Prop×Den (tyP bn):=fun x=>([],(dk x.1,()))
def Co (m:Match) (i:Int):Bool:=if m.Follow&&decide (i≥2) then i==2 else i.tmod 2==1
def cJ (m:Match) (i:Int):Int:=if Co m i then dk m.First else m.First
def wa:Den (tyP qMI)→List Prop×Den (tyP bn):=fun x=>([],(cJ x.1 x.2.1,()))
def Gz (s:Int):List Innings→Int→Int
 | [],n=>n
 | x::l,n=>Gz s l (if x.Side==s then W (n+x.Runs) else n)
def ki (m:Match) (s:Int):Int:=Gz s m.Innings 0
def Gi:Den (tyP qMI)→List Prop×Den (tyP bn):=fun x=>([],(ki x.1 x.2.1,()))
def fE (m:Match) (s:Int):Int:=
 if decide (W ((m.Innings.length:Int)+1)<W (2*m.Rules.Innings)) then 0 else W (W (ki m (dk s) - ki m s)+1)
def wg:Den (tyP qMI)→List Prop×Den (tyP bn):=fun x=>([],(fE x.1 x.2.1,()))
abbrev qTo:Pat:=⟨[(5,.h I),(1,.h I),(9,.h GG),(10,.h I),(11,.h I)],[],0⟩
abbrev xTo:List (Lf×Pat):= [(.ext 0,⟨[(5,.h I)],[],0⟩)]
abbrev TTo:Type:=Int×Int×List Innings×Int×Int×Unit
def mf (x:TTo):Prop:=x.2.2.2.1 =(x.2.2.1.length:Int)∧0≤x.2.2.2.2.1∧x.2.2.2.2.1≤x.2.2.2.1∧x.2.2.1.length≤aW
def CL (x:TTo):Nat:=(x.2.2.2.1 - x.2.2.2.2.1).toNat
def mn (x:TTo):Int×Unit:=(Gz x.2.1 (x.2.2.1.drop x.2.2.2.2.1.toNat) x.1,())
theorem w8 {m:Match} (h:wfD (.nm .Match) m):m.Innings.length≤aW:=
 eZ (bo (aY (aY (aY (aY (GC h))))))
theorem Dv (s:Int) :(evPat (an [] Tryz.f215) (fun _=>none) Tryz.f215 bn bn (s,())).sat fun z_=>z_ =(AX (s,())).2:=by
 refine cast (by kernel_rfl) (?_ :(IntKind.i64.wrap ((3:Int) - s),()) =(dk s,()))
 rfl
def fz:FuncId×Ctr:=(215,af KE bn bn AX)
theorem kY:CtrOK Tryz.prog KE 215 (af KE bn bn AX):=by
 refine ax (C:=an [] Tryz.f215) (al (CtrsOK.nil) _) mixed (fn:=Tryz.f215) Tryz.func215 (by kernel_rfl) (by kernel_rfl) (by kernel_rfl) (by kernel_rfl) (by kernel_rfl) (by kernel_rfl) (Λ:=fun _ _=>none) ?_ ?_
 ·exact fun _ _ _ _ _ _ _ _ h=>by cases h
 ·rintro ⟨s,⟨⟩⟩ hw hn
  exact Dv s
theorem Du (m:Match) (i:Int) :(evPat (an [fz] Tryz.f209) (fun _=>none) Tryz.f209 qMI bn (m,i,())).sat fun z_=>z_ =(wa (m,i,())).2:=by
 refine cast (by kernel_rfl) (?_:let r1:Bool:=bif bif m.4 then decide (i≥(2:Int)) else false then i ==(2:Int) else i.tmod (2:Int) ==(1:Int);(2:Int)≠(0:Int)∧(r1=true→(dk m.3,()) =(cJ m i,()))∧(r1=false→(m.3,()) =(cJ m i,())))
 intro r1
 clear_value (hr1:r1=_)
 grind [cJ,Co]
def vh:FuncId×Ctr:=(209,af KE qMI bn wa)
theorem yb:CtrOK Tryz.prog KE 209 (af KE qMI bn wa):=by
 refine ax (C:=an [fz] Tryz.f209) (al (.consU kY rfl .nil) _) mixed (fn:=Tryz.f209) Tryz.func209 (by kernel_rfl) (by kernel_rfl) (by kernel_rfl) (by kernel_rfl) (by kernel_rfl) (by kernel_rfl) (Λ:=fun _ _=>none) ?_ ?_
 ·exact fun _ _ _ _ _ _ _ _ h=>by cases h
 ·rintro ⟨m,i,⟨⟩⟩ hw hn
  exact Du m i
noncomputable def lpTo:Lp:=(⟨0,an [] Tryz.f219,(fun _=>none),(aE Tryz.f219 0),qTo,xTo⟩:Lp)
theorem Ka (a:Int) (s:Int) (xs:List Innings) (n:Int) (i:Int) (hi:mf (a,s,xs,n,i,())) :(Go.Mir.stepG lpTo mn (fun y:Den (tyP lpTo.q)=>mf y∧CL y<CL (a,s,xs,n,i,())) (a,s,xs,n,i,())∧Go.Mir.stepE lpTo mn (a,s,xs,n,i,())=mn (a,s,xs,n,i,())):=by
 refine cast (by kernel_rfl) (?_:let r1:Bool:=(xs.getD i.toNat (dflt (Ty.nm Nm.Innings))).1==s;let r2:Int×Unit:=mn (bif r1 then IntKind.i64.wrap (a +(xs.getD i.toNat (dflt (Ty.nm Nm.Innings))).4) else a,s,xs,n,IntKind.i64.wrap (i +(1:Int)),());((decide (i<n)=true→(((0:Int)≤i∧i <(↑xs.length:Int))∧(r1=true→True)∧(r1=false→True))∧(true=true→mf (bif r1 then IntKind.i64.wrap (a +(xs.getD i.toNat (dflt (Ty.nm Nm.Innings))).4) else a,s,xs,n,IntKind.i64.wrap (i +(1:Int)),())∧CL (bif r1 then IntKind.i64.wrap (a +(xs.getD i.toNat (dflt (Ty.nm Nm.Innings))).4) else a,s,xs,n,IntKind.i64.wrap (i +(1:Int)),())<CL (a,s,xs,n,i,())))∧(decide (i<n)=false→True))∧(bif decide (i<n) then bif true&&true then r2 else bif true then r2 else bif r1 then dflt (I.prod Ty.unit) else dflt (I.prod Ty.unit) else (a,()))=mn (a,s,xs,n,i,()))
 intro r1 r2
 clear_value (hr1:r1=_) (hr2:r2=_)
 obtain ⟨h1,h2,h3,h4⟩:=hi
 simp only at h1 h2 h3 h4
 have h5 :(xs.length:Int)≤140737488355328:=by have:xs.length≤140737488355328:=h4;omega
 refine ⟨⟨fun h=>?_,fun _=>trivial⟩,?_⟩
 ·have h:i<n:=of_decide_eq_true h
  rw [bM (n:=i+1) (by omega) (by omega)]
  exact ⟨⟨⟨h2,by omega⟩,fun _=>trivial,fun _=>trivial⟩,fun _=>⟨⟨h1,by simp only;omega,by simp only;omega,h4⟩,by simp only [CL];omega⟩⟩
 ·by_cases h:i<n
  ·rw [bM (n:=i+1) (by omega) (by omega)] at hr2
   have e:xs.drop i.toNat=xs.getD i.toNat (dflt (Ty.nm Nm.Innings))::xs.drop (i+1).toNat:=dT h2 (by omega) _
   rw [decide_eq_true h]
   show r2=_
   rw [hr2,hr1]
   generalize xs.getD i.toNat (dflt (Ty.nm Nm.Innings))=v at e ⊢
   simp only [mn,e,Gz]
   cases v.Side==s <;> rfl
  ·rw [decide_eq_false h,cond_false]
   simp only [mn]
   rw [c7 (l:=xs) (by omega)]
   rfl
noncomputable def I1:LoopSum:=bf lpTo mn mf
noncomputable def IL:Nat:=rid (aE Tryz.f219 0)
theorem Jz:LoopOKp Tryz.prog 0 Tryz.f219.ntmps (aE Tryz.f219 0) (bf lpTo mn mf):=
 bT lpTo (al (CtrsOK.nil) _) mixed (fun b hb S hS=>by cases hS) mn mf CL (fun |⟨a,s,xs,n,i,⟨⟩⟩,hi=>Ka a s xs n i hi)
theorem Dw (m:Match) (s:Int) (hx:m.Innings.length≤aW) :(evPat (an [] Tryz.f219) (find [(IL,I1)]) Tryz.f219 qMI bn (m,s,())).sat fun z_=>z_ =(Gi (m,s,())).2:=by
 refine cast (by kernel_rfl) (?_ :((fh fun x=>none)∧(↑m.5.length:Int) =(↑m.5.length:Int)∧(0:Int)≤(0:Int)∧(0:Int)≤(↑m.5.length:Int)∧m.5.length≤aW)∧(Gz s (List.drop (Int.toNat (0:Int)) m.5) (0:Int),()) =(ki m s,()))
 exact ⟨⟨rfl,rfl,Int.le_refl _,by omega,hx⟩,rfl⟩
def lN:FuncId×Ctr:=(219,af KE qMI bn Gi)
theorem q9:CtrOK Tryz.prog KE 219 (af KE qMI bn Gi):=by
 refine ax (C:=an [] Tryz.f219) (al (CtrsOK.nil) _) mixed (fn:=Tryz.f219) Tryz.func219 (by kernel_rfl) (by kernel_rfl) (by kernel_rfl) (by kernel_rfl) (by kernel_rfl) (by kernel_rfl) (Λ:=fun x=>find [(IL,I1)]) ?_ ?_
 ·rintro ⟨m,s,⟨⟩⟩ hw hn
  exact LoopsOKp.at (by kernel_rfl) (.cons (by kernel_rfl) (Jz) .nil)
 ·rintro ⟨m,s,⟨⟩⟩ hw hn
  exact Dw m s (w8 (bo hw))
theorem AF (m:Match) (s:Int) :(evPat (an [fz,lN] Tryz.f290) (fun _=>none) Tryz.f290 qMI bn (m,s,())).sat fun z_=>z_ =(wg (m,s,())).2:=by
 refine cast (by kernel_rfl) (?_:let r1:Int:=IntKind.i64.wrap ((2:Int)*m.1.3);let r2:Int:=IntKind.i64.wrap ((↑m.5.length:Int) +(1:Int));let r3:Bool:=decide (r2<r1);(r3=true→((0:Int),()) =(fE m s,()))∧(r3=false→(IntKind.i64.wrap (IntKind.i64.wrap (ki m (dk s) - ki m s) +(1:Int)),()) =(fE m s,())))
 intro r1 r2 r3
 clear_value (hr1:r1=_) (hr2:r2=_) (hr3:r3=_)
 grind [fE]
def xP:FuncId×Ctr:=(290,af KE qMI bn wg)
theorem C0:CtrOK Tryz.prog KE 290 (af KE qMI bn wg):=by
 refine ax (C:=an [fz,lN] Tryz.f290) (al (.consU kY rfl (.consU q9 rfl .nil)) _) mixed (fn:=Tryz.f290) Tryz.func290 (by kernel_rfl) (by kernel_rfl) (by kernel_rfl) (by kernel_rfl) (by kernel_rfl) (by kernel_rfl) (Λ:=fun _ _=>none) ?_ ?_
 ·exact fun _ _ _ _ _ _ _ _ h=>by cases h
 ·rintro ⟨m,s,⟨⟩⟩ hw hn
  exact AF m s
end Go.Proofs.YthaeofeigglbhaaGreatDoor
namespace Go.Proofs.YthaeofeigglbhaaGreatDoor
open Go Go.Mir
attribute [local irreducible] Go.Mir.DT.sat Go.Mir.evPat Go.Mir.RT.sat Go.Mir.evFn
def EI (st n i:Int):Bool:=st==3&&i==W (n - 1)
def zq (st n:Int):List Innings→Int→Bool
 | [],_=>true
 | x::l,i=>if (x.Ending==0) != EI st n i then false else zq st n l (i+1)
def jo (m:Match):Bool:=zq m.Stage m.Innings.length m.Innings 0&&(m.Stage != 3||decide ((m.Innings.length:Int)>0))
def AP:Den (tyP qM)→List Prop×Den (tyP aC):=fun x=>([],(jo x.1,()))
abbrev qEn:Pat:=⟨[(1,.c (.ptr 0 0)),(3,.h I),(10,.h GG),(11,.h I),(12,.h I)],[(0,.dat (.nm .Match))],1⟩
abbrev xEn:List (Lf×Pat):= [(.ret,⟨[(2,.h .bool)],[],0⟩),(.ext 0,⟨[(1,.c (.ptr 0 0)),(3,.h I)],[(0,.dat (.nm .Match))],1⟩)]
abbrev TEn:Type:=Int×List Innings×Int×Int×Match×Unit
def tj (x:TEn):Prop:=mf (0,0,x.2.1,x.2.2.1,x.2.2.2.1,())
def CK (x:TEn):Nat:=(x.2.2.1 - x.2.2.2.1).toNat
def Iy (n:Int) (m:Match) (b:Bool):Sum (Bool×Unit) (Int×Match×Unit):=if b then .inr (n,m,()) else .inl (false,())
def iu (x:TEn):Sum (Bool×Unit) (Int×Match×Unit):=Iy x.1 x.2.2.2.2.1 (zq x.2.2.2.2.1.Stage x.1 (x.2.1.drop x.2.2.2.1.toNat) x.2.2.2.1)
noncomputable def lpEn:Lp:=(⟨0,an [] Tryz.f210,(fun _=>none),(aE Tryz.f210 0),qEn,xEn⟩:Lp)
theorem J8 (k:Int) (xs:List Innings) (n:Int) (i:Int) (m:Match) (hi:tj (k,xs,n,i,m,())) :(Go.Mir.stepG lpEn iu (fun y:Den (tyP lpEn.q)=>tj y∧CK y<CK (k,xs,n,i,m,())) (k,xs,n,i,m,())∧Go.Mir.stepE lpEn iu (k,xs,n,i,m,())=iu (k,xs,n,i,m,())):=by
 refine cast (by kernel_rfl) (?_:let r1:Bool:=(xs.getD i.toNat (dflt (Ty.nm Nm.Innings))).23 ==(0:Int);let r2:Bool:=bif m.2 ==(3:Int) then !r1 ==(i==IntKind.i64.wrap (k - (1:Int))) else !r1==false;((decide (i<n)=true→((0:Int)≤i∧i <(↑xs.length:Int))∧(r2=true→True)∧(r2=false→tj (k,xs,n,IntKind.i64.wrap (i +(1:Int)),m,())∧CK (k,xs,n,IntKind.i64.wrap (i +(1:Int)),m,())<CK (k,xs,n,i,m,())))∧(decide (i<n)=false→True))∧(bif decide (i<n) then bif r2 then Sum.inl (false,()) else iu (k,xs,n,IntKind.i64.wrap (i +(1:Int)),m,()) else Sum.inr (k,m,()))=iu (k,xs,n,i,m,()))
 intro r1 r2
 clear_value (hr1:r1=_) (hr2:r2=_)
 obtain ⟨h1,h2,h3,h4⟩:=hi
 simp only at h1 h2 h3 h4
 have h5 :(xs.length:Int)≤140737488355328:=by have:xs.length≤140737488355328:=h4;omega
 refine ⟨⟨fun h=>?_,fun _=>trivial⟩,?_⟩
 ·have h:i<n:=of_decide_eq_true h
  rw [bM (n:=i+1) (by omega) (by omega)]
  exact ⟨⟨h2,by omega⟩,fun _=>trivial,fun _=>⟨⟨h1,by simp only;omega,by simp only;omega,h4⟩,by simp only [CK];omega⟩⟩
 ·by_cases h:i<n
  ·have e:xs.drop i.toNat=xs.getD i.toNat (dflt (Ty.nm Nm.Innings))::xs.drop (i+1).toNat:=dT h2 (by omega) _
   rw [decide_eq_true h,cond_true,bM (n:=i+1) (by omega) (by omega)]
   generalize xs.getD i.toNat (dflt (Ty.nm Nm.Innings))=v at e hr1
   have e2:r2 =((v.Ending==0) != EI m.Stage k i):=by
    rw [hr2,hr1]
    unfold EI
    cases m.Stage==3 <;> cases v.Ending==0 <;> cases i==IntKind.i64.wrap (k - 1) <;> rfl
   simp only [iu,e,zq]
   rw [←e2]
   cases r2 <;> rfl
  ·rw [decide_eq_false h,cond_false]
   simp only [iu]
   rw [c7 (l:=xs) (by omega)]
   rfl
noncomputable def IZ:LoopSum:=bf lpEn iu tj
noncomputable def IJ:Nat:=rid (aE Tryz.f210 0)
theorem Jx:LoopOKp Tryz.prog 0 Tryz.f210.ntmps (aE Tryz.f210 0) (bf lpEn iu tj):=
 bT lpEn (al (CtrsOK.nil) _) mixed (fun b hb S hS=>by cases hS) iu tj CK (fun |⟨k,xs,n,i,m,⟨⟩⟩,hi=>J8 k xs n i m hi)
theorem Dt (m:Match) (hx:m.Innings.length≤aW) :(evPat (an [] Tryz.f210) (find [(IJ,IZ)]) Tryz.f210 qM aC (m,())).sat fun z_=>z_ =(AP (m,())).2:=by
 refine cast (by kernel_rfl) (?_:let r1:Bool:=isL (iu ((↑m.5.length:Int),m.5,(↑m.5.length:Int),(0:Int),m,()));let r2:Int×Match×PUnit:=zD (dflt (I.prod ((Ty.nm Nm.Match).prod Ty.unit))) (iu ((↑m.5.length:Int),m.5,(↑m.5.length:Int),(0:Int),m,()));((fh fun x=>none)∧(↑m.5.length:Int) =(↑m.5.length:Int)∧(0:Int)≤(0:Int)∧(0:Int)≤(↑m.5.length:Int)∧m.5.length≤aW)∧(r1=true→nU (dflt (Ty.bool.prod Ty.unit)) (iu ((↑m.5.length:Int),m.5,(↑m.5.length:Int),(0:Int),m,())) =(jo m,()))∧(r1=false→(bif r2.2.1.2 !=(3:Int) then true else decide (r2.1 >(0:Int)),()) =(jo m,())))
 intro r1 r2
 clear_value (hr1:r1=_) (hr2:r2=_)
 have er:iu ((m.Innings.length:Int),m.Innings,(m.Innings.length:Int),0,m,())=Iy m.Innings.length m (zq m.Stage m.Innings.length m.Innings 0):=rfl
 rw [er] at hr1 hr2 ⊢
 refine ⟨⟨rfl,rfl,Int.le_refl _,by omega,hx⟩,fun h=>?_,fun h=>?_⟩
 ·cases hE:zq m.Stage m.Innings.length m.Innings 0 with
  | true=>rw [hE] at hr1;rw [hr1] at h;cases h
  | false=>simp only [jo,hE];rfl
 ·cases hE:zq m.Stage m.Innings.length m.Innings 0 with
  | false=>rw [hE] at hr1;rw [hr1] at h;cases h
  | true=>
   rw [hE] at hr2
   have e2:r2 =((m.Innings.length:Int),m,()):=hr2
   rw [e2]
   simp only [jo,hE]
   cases m.Stage != 3 <;> rfl
def pw:FuncId×Ctr:=(210,af KE qM aC AP)
theorem ya:CtrOK Tryz.prog KE 210 (af KE qM aC AP):=by
 refine ax (C:=an [] Tryz.f210) (al (CtrsOK.nil) _) mixed (fn:=Tryz.f210) Tryz.func210 (by kernel_rfl) (by kernel_rfl) (by kernel_rfl) (by kernel_rfl) (by kernel_rfl) (by kernel_rfl) (Λ:=fun x=>find [(IJ,IZ)]) ?_ ?_
 ·rintro ⟨m,⟨⟩⟩ hw hn
  exact LoopsOKp.at (by kernel_rfl) (.cons (by kernel_rfl) (Jx) .nil)
 ·rintro ⟨m,⟨⟩⟩ hw hn
  exact Dt m (w8 (bo hw))
end Go.Proofs.YthaeofeigglbhaaGreatDoor
namespace Go.Proofs.YthaeofeigglbhaaGreatDoor
open Go Go.Mir
attribute [local irreducible] Go.Mir.DT.sat Go.Mir.evPat Go.Mir.RT.sat Go.Mir.evFn
def fo (l:List Innings):Prop:=∀ z∈l,ah z
def iH (m:Match):Prop:=fo m.Innings
def okF (m:Match):List Innings→Int→Bool
 | [],_=>true
 | x::l,i=>if !bZ m.Rules x||x.Side != cJ m i then false else okF m l (i+1)
abbrev qVa:Pat:=⟨[(1,.c (.ptr 0 0)),(122,.h GG),(123,.h I),(124,.h I)],[(0,.dat (.nm .Match))],1⟩
abbrev xVa:List (Lf×Pat):= [(.ret,⟨[(2,.h .bool)],[],0⟩),(.ext 3,⟨[(1,.c (.ptr 0 0))],[(0,.dat (.nm .Match))],1⟩)]
abbrev TVa:Type:=List Innings×Int×Int×Match×Unit
def tn (x:TVa):Prop:=mf (0,0,x.1,x.2.1,x.2.2.1,())∧fo x.1
def CM (x:TVa):Nat:=(x.2.1 - x.2.2.1).toNat
def B5 (m:Match) (b:Bool):Sum (Bool×Unit) (Match×Unit):=if b then .inr (m,()) else .inl (false,())
def gN (x:TVa):Sum (Bool×Unit) (Match×Unit):=B5 x.2.2.2.1 (okF x.2.2.2.1 (x.1.drop x.2.2.1.toNat) x.2.2.1)
def fL (m:Match):Bool:=
 let n:Int:=m.Innings.length
 (decide (m.First<0) ||(decide (m.First>2)||decide (n>W (2*m.Rules.Innings))))
 ||(m.First==0&&(decide (n>0)||m.Stage != 1&&m.Stage != 5))
 ||(m.Stage==1&&m.First != 0)
 ||(m.Stage==2&&n==W (2*m.Rules.Innings))
 ||(m.Stage==4&&(!(m.Rules.Innings==2)||n != 2))
 ||(m.Follow&&(!(m.Rules.Innings==2)||decide (n<2)))
def Ag (m:Match):Bool:=!inW m.Penalty.1 0 1000000||!inW m.Penalty.2.1 0 1000000
def aM (m:Match):Bool:=az m.Rules==0&&(inW m.Stage 1 5&&(!Ag m&&(!fL m&&(okF m m.Innings 0&&jo m))))
def wi:Den (tyP qM)→List Prop×Den (tyP aC):=fun x=>([iH x.1],(aM x.1,()))
theorem iK {α:Type} {xs:List α} {i:Nat} (h:i<xs.length) (d:α):xs.getD i d∈xs:=by
 rw [List.getD_eq_getElem?_getD,List.getElem?_eq_getElem h]
 exact List.getElem_mem h
noncomputable def lpVa:Lp:=(⟨0,an [nf,vh] Tryz.f133,(fun _=>none),(aE Tryz.f133 1),qVa,xVa⟩:Lp)
theorem Kb (xs:List Innings) (n:Int) (i:Int) (m:Match) (hi:tn (xs,n,i,m,())) :(Go.Mir.stepG lpVa gN (fun y:Den (tyP lpVa.q)=>tn y∧CM y<CM (xs,n,i,m,())) (xs,n,i,m,())∧Go.Mir.stepE lpVa gN (xs,n,i,m,())=gN (xs,n,i,m,())):=by
 refine cast (by kernel_rfl) (?_:let r1:Bool:=!bZ m.1 (xs.getD i.toNat (dflt (Ty.nm Nm.Innings)));let r2:Bool:=bif r1 then true else (xs.getD i.toNat (dflt (Ty.nm Nm.Innings))).1 != cJ m i;((decide (i<n)=true→((0:Int)≤i∧i <(↑xs.length:Int))∧(ah (xs.getD i.toNat (dflt (Ty.nm Nm.Innings)))∧(r1=true→True)∧(r1=false→True))∧(true=true→(r2=true→True)∧(r2=false→tn (xs,n,IntKind.i64.wrap (i +(1:Int)),m,())∧CM (xs,n,IntKind.i64.wrap (i +(1:Int)),m,())<CM (xs,n,i,m,()))))∧(decide (i<n)=false→True))∧(bif decide (i<n) then bif true&&true then bif r2 then Sum.inl (false,()) else gN (xs,n,IntKind.i64.wrap (i +(1:Int)),m,()) else bif true then bif r2 then Sum.inl (false,()) else gN (xs,n,IntKind.i64.wrap (i +(1:Int)),m,()) else bif r1 then Sum.inl (dflt (Ty.bool.prod Ty.unit)) else Sum.inl (dflt (Ty.bool.prod Ty.unit)) else Sum.inr (m,()))=gN (xs,n,i,m,()))
 intro r1 r2
 clear_value (hr1:r1=_) (hr2:r2=_)
 obtain ⟨⟨h1,h2,h3,h4⟩,hs⟩:=hi
 simp only at h1 h2 h3 h4 hs
 have h5 :(xs.length:Int)≤140737488355328:=by have:xs.length≤140737488355328:=h4;omega
 refine ⟨⟨fun h=>?_,fun _=>trivial⟩,?_⟩
 ·have h:i<n:=of_decide_eq_true h
  rw [bM (n:=i+1) (by omega) (by omega)]
  refine ⟨⟨h2,by omega⟩,⟨hs _ ?_,fun _=>trivial,fun _=>trivial⟩,fun _=>⟨fun _=>trivial,fun _=>⟨⟨⟨h1,by simp only;omega,by simp only;omega,h4⟩,hs⟩,by simp only [CM];omega⟩⟩⟩
  have hl:i.toNat<xs.length:=by omega
  exact iK hl _
 ·by_cases h:i<n
  ·have e:xs.drop i.toNat=xs.getD i.toNat (dflt (Ty.nm Nm.Innings))::xs.drop (i+1).toNat:=dT h2 (by omega) _
   rw [decide_eq_true h,bM (n:=i+1) (by omega) (by omega)]
   generalize xs.getD i.toNat (dflt (Ty.nm Nm.Innings))=v at e hr1 hr2
   have e2:r2 =(!bZ m.Rules v||v.Side != cJ m i):=by
    rw [hr2,hr1]
    cases bZ m.Rules v <;> rfl
   simp only [gN,e,okF]
   rw [←e2]
   cases r2 <;> rfl
  ·rw [decide_eq_false h,cond_false]
   simp only [gN]
   rw [c7 (l:=xs) (by omega)]
   rfl
noncomputable def I2:LoopSum:=bf lpVa gN tn
noncomputable def IM:Nat:=rid (aE Tryz.f133 1)
theorem JA:LoopOKp Tryz.prog 0 Tryz.f133.ntmps (aE Tryz.f133 1) (bf lpVa gN tn):=
 bT lpVa (al (.consU q7 rfl (.consU yb rfl .nil)) _) mixed (fun b hb S hS=>by cases hS) gN tn CM (fun |⟨xs,n,i,m,⟨⟩⟩,hi=>Kb xs n i m hi)
theorem Dx (m:Match) (hm:iH m) (hx:m.Innings.length≤aW) :(evPat (an [k85,pw] Tryz.f133) (find [(rid (aE Tryz.f133 0),bp 3 (an [k85,pw] Tryz.f133) (fun _=>none) (aE Tryz.f133 0)),(IM,I2)]) Tryz.f133 qM aC (m,())).sat fun z_=>z_ =(wi (m,())).2:=by
 refine cast (by kernel_rfl) (?_:let r1:Bool:=!m.1.3 ==(2:Int);let r2:Int:=IntKind.i64.wrap ((2:Int)*m.1.3);let r3:Int:=IntKind.i64.wrap ((0:Int) +(1:Int));let r4:Bool:=bif m.2 ==(1:Int) then m.3 !=(0:Int) else false;let r5:Bool:=bif decide (m.6.1 <(0:Int)) then true else decide (m.6.1 >(1000000:Int));let r6:Bool:=bif m.2 ==(2:Int) then (↑m.5.length:Int)==r2 else false;let r7:Bool:=bif decide (m.6.2.1 <(0:Int)) then true else decide (m.6.2.1 >(1000000:Int));let r8:Bool:=bif m.2 ==(4:Int) then bif r1 then true else (↑m.5.length:Int) !=(2:Int) else false;let r9:Bool:=bif m.4 then bif r1 then true else decide ((↑m.5.length:Int) <(2:Int)) else false;let r10:Bool:=bif az m.1 !=(0:Int) then true else bif decide (m.2 <(1:Int)) then true else decide (m.2 >(5:Int));let r11:Bool:=bif m.3 ==(0:Int) then bif decide ((↑m.5.length:Int) >(0:Int)) then true else bif m.2 !=(1:Int) then m.2 !=(5:Int) else false else false;let r12:Bool:=bif decide (m.3 <(0:Int)) then true else bif decide (m.3 >(2:Int)) then true else decide ((↑m.5.length:Int)>r2);let r13:Bool:=isL (gN (m.5,(↑m.5.length:Int),(0:Int),m,()));(r10=true→(false,()) =(aM m,()))∧(r10=false→True∧((0:Int)≤(0:Int)∧(0:Int) <(↑(2:Nat):Int))∧(r5=true→(false,()) =(aM m,()))∧(r5=false→((0:Int)≤r3∧r3 <(↑(2:Nat):Int))∧(r7=true→(false,()) =(aM m,()))∧(r7=false→(r12=true→(false,()) =(aM m,()))∧(r12=false→(r11=true→(false,()) =(aM m,()))∧(r11=false→(r4=true→(false,()) =(aM m,()))∧(r4=false→(r6=true→(false,()) =(aM m,()))∧(r6=false→(r8=true→(false,()) =(aM m,()))∧(r8=false→(r9=true→(false,()) =(aM m,()))∧(r9=false→((fh fun x=>none)∧mf ((0:Int),(0:Int),m.5,(↑m.5.length:Int),(0:Int),())∧fo m.5)∧(r13=true→nU (dflt (Ty.bool.prod Ty.unit)) (gN (m.5,(↑m.5.length:Int),(0:Int),m,())) =(aM m,()))∧(r13=false→(jo (zD (dflt ((Ty.nm Nm.Match).prod Ty.unit)) (gN (m.5,(↑m.5.length:Int),(0:Int),m,()))).1,()) =(aM m,()))))))))))))
 intro r1 r2 r3 r4 r5 r6 r7 r8 r9 r10 r11 r12 r13
 clear_value (hr1:r1=_) (hr2:r2=_) (hr3:r3=_) (hr4:r4=_) (hr5:r5=_) (hr6:r6=_) (hr7:r7=_) (hr8:r8=_) (hr9:r9=_) (hr10:r10=_) (hr11:r11=_) (hr12:r12=_) (hr13:r13=_)
 have er:gN (m.Innings,(m.Innings.length:Int),0,m,())=B5 m (okF m m.Innings 0):=rfl
 have n3:r3=1:=by rw [hr3];rfl
 have e10:r10=!(az m.Rules==0&&inW m.Stage 1 5):=by
  have h1:decide (m.Stage<1)=!decide (m.Stage≥1):=by by_cases h:m.Stage≥1 <;> simp [h] <;> omega
  have h2:decide (m.Stage>5)=!decide (m.Stage≤5):=by by_cases h:m.Stage≤5 <;> simp [h] <;> omega
  rw [hr10,h1,h2]
  unfold inW
  cases hc:az m.Rules==0 <;> cases decide (m.Stage≥1) <;> cases decide (m.Stage≤5) <;> simp [bne,hc]
 have hq :∀ k:Int,(bif decide (k<0) then true else decide (k>1000000))=!inW k 0 1000000:=fun k=>by
  have h1:decide (k<0)=!decide (k≥0):=by by_cases h:k≥0 <;> simp [h] <;> omega
  have h2:decide (k>1000000)=!decide (k≤1000000):=by by_cases h:k≤1000000 <;> simp [h] <;> omega
  rw [h1,h2]
  unfold inW
  cases decide (k≥0) <;> cases decide (k≤1000000) <;> rfl
 have ep:Ag m =(r5||r7):=by rw [hr5,hr7,hq,hq];rfl
 have es:fL m =(((((r12||r11)||r4)||r6)||r8)||r9):=by
  rw [hr12,hr11,hr4,hr6,hr8,hr9,hr1,hr2]
  simp only [fL,Bool.cond_true_left,Bool.cond_false_right]
 have hv:aM m =(!r10&&(!Ag m&&(!fL m&&(okF m m.Innings 0&&jo m)))):=by rw [e10];unfold aM;simp only [Bool.not_not,Bool.and_assoc]
 rw [er] at hr13
 rw [er,hv,ep,es,n3]
 clear hr1 hr2 hr3 hr4 hr5 hr6 hr7 hr8 hr9 hr10 hr11 hr12 ep es hv e10 hq
 have hi:mf (0,0,m.Innings,(m.Innings.length:Int),0,()):=⟨rfl,Int.le_refl _,by simp only;omega,hx⟩
 have hm':fo m.Innings:=hm
 cases r10 with
 | true=>simp
 | false=>
 cases r5 with
 | true=>simp
 | false=>
 cases r7 with
 | true=>simp
 | false=>
 cases r12 with
 | true=>simp
 | false=>
 cases r11 with
 | true=>simp
 | false=>
 cases r4 with
 | true=>simp
 | false=>
 cases r6 with
 | true=>simp
 | false=>
 cases r8 with
 | true=>simp
 | false=>
 cases r9 with
 | true=>simp
 | false=>
 cases hF:okF m m.Innings 0 with
 | true=>rw [hF] at hr13;have e:r13=false:=hr13;simp [e,B5,zD,fh,hi,hm']
 | false=>rw [hF] at hr13;have e:r13=true:=hr13;simp [e,B5,nU,fh,hi,hm'];rfl
def px:FuncId×Ctr:=(133,af KE qM aC wi)
theorem yc:CtrOK Tryz.prog KE 133 (af KE qM aC wi):=by
 refine ax (C:=an [k85,pw] Tryz.f133) (al (.consU vw rfl (.consU ya rfl .nil)) _) mixed (fn:=Tryz.f133) Tryz.func133 (by kernel_rfl) (by kernel_rfl) (by kernel_rfl) (by kernel_rfl) (by kernel_rfl) (by kernel_rfl) (Λ:=fun x=>find [(rid (aE Tryz.f133 0),bp 3 (an [k85,pw] Tryz.f133) (fun _=>none) (aE Tryz.f133 0)),(IM,I2)]) ?_ ?_
 ·rintro ⟨m,⟨⟩⟩ hw hn
  exact LoopsOKp.at (by kernel_rfl) (.cons (by kernel_rfl) (eo 3 (al (.consU vw rfl (.consU ya rfl .nil)) _) mixed (Λ:=fun _=>none) (b:=aE Tryz.f133 0) rfl (fun _ _ _ h=>by cases h)) (.cons (by kernel_rfl) (JA) .nil))
 ·rintro ⟨m,⟨⟩⟩ hw hn
  exact Dx m (hn _ List.mem_cons_self) (w8 (bo hw))
end Go.Proofs.YthaeofeigglbhaaGreatDoor
namespace Go.Proofs.YthaeofeigglbhaaGreatDoor
open Go Go.Mir
attribute [local irreducible] Go.Mir.DT.sat Go.Mir.evPat Go.Mir.RT.sat Go.Mir.evFn
end Go.Proofs.YthaeofeigglbhaaGreatDoor
namespace Go.Proofs.YthaeofeigglbhaaGreatDoor
open Go Go.Mir
attribute [local irreducible] Go.Mir.DT.sat Go.Mir.evPat Go.Mir.RT.sat Go.Mir.evFn
def BS (m:Match):Int:=W (2*m.Rules.Innings)
end Go.Proofs.YthaeofeigglbhaaGreatDoor
namespace Go.Proofs.YthaeofeigglbhaaGreatDoor
open Go Go.Mir
end Go.Proofs.YthaeofeigglbhaaGreatDoor
namespace Go.Proofs.YthaeofeigglbhaaGreatDoor
open Go Go.Mir
attribute [local irreducible] Go.Mir.DT.sat Go.Mir.evPat Go.Mir.RT.sat Go.Mir.evFn
abbrev qRu:Pat:=cm [.nm .Rules]
def dx (r:Rules):Int:=if r.Overs==0 then 5 else 6
def A2:Den (tyP qRu)→List Prop×Den (tyP qH):=fun x=>([],(dx x.1,()))
theorem rD (r:Rules) :(evPat (an [] Tryz.f292) (fun _=>none) Tryz.f292 qRu qH (r,())).sat fun z_=>z_ =(A2 (r,())).2:=by
 refine cast (by kernel_rfl) (?_ :((r.4 ==(0:Int))=true→((5:Int),()) =(dx r,()))∧((r.4 ==(0:Int))=false→((6:Int),()) =(dx r,())))
 grind [dx]
def gd:FuncId×Ctr:=(292,af KE qRu qH A2)
theorem mi:CtrOK Tryz.prog KE 292 (af KE qRu qH A2):=by
 refine ax (C:=an [] Tryz.f292) (al (CtrsOK.nil) _) mixed (fn:=Tryz.f292) Tryz.func292 (by kernel_rfl) (by kernel_rfl) (by kernel_rfl) (by kernel_rfl) (by kernel_rfl) (by kernel_rfl) (Λ:=fun _ _=>none) ?_ ?_
 ·exact fun _ _ _ _ _ _ _ _ h=>by cases h
 ·rintro ⟨r,⟨⟩⟩ hw hn
  exact rD r
end Go.Proofs.YthaeofeigglbhaaGreatDoor
namespace Go.Proofs.YthaeofeigglbhaaGreatDoor
open Go Go.Mir
attribute [local irreducible] Go.Mir.DT.sat Go.Mir.evPat Go.Mir.RT.sat Go.Mir.evFn
def aI (m:Match):Prop:=iH m∧m.Innings.length≤1000000∧m.Rules.Power.length≤1000000
abbrev zj (s:PC0):List PC0:= [.h .str,.h I,.h I,.h I,.h I,.h I,.h I,.h I,.h .bool,.h I,.h I,.h I,.h I,.h (.slice (.nm .Phase)),.h U8,.h I,.h .bool,s,.h I,.h I,.h U8,.h I,.h I]
abbrev qMo:Pat:=⟨[(0,.a (zj (.c (.osl 0 1))))],[(0,.row 1 (.nm .Innings))],2⟩
abbrev yx:Pat:=cm [.nm .Match,I]
def _root_.Go.Mir.mkM (v1:ByteArray) (v2:Int) (v3:Int) (v4:Int) (v5:Int) (v6:Int) (v7:Int) (v8:Int) (v9:Bool) (v10:Int) (v11:Int) (v12:Int) (v13:Int) (v14:List Phase) (v15:Int) (v16:Int) (v17:Bool) (v18:Int) (v19:Int) (v20:Int) (v21:Int) (v22:Int) (xs:List Innings):Match:=
 { Rules:={ Name:=v1,Side:=v2,Innings:=v3,Overs:=v4,Balls:=v5,Quota:=v6,Wide:=v7,NoBall:=v8,FreeHit:=v9,NewBall:=v10,FollowOn:=v11,Reviews:=v12,Outside:=v13,Power:=v14 },Stage:=v15,First:=v16,Follow:=v17,Innings:=xs,Penalty:=(v18,v19,()),Result:={ Win:=v20,Side:=v21,Margin:=v22 } }
abbrev TM:Type:=ByteArray×Int×Int×Int×Int×Int×Int×Int×Bool×Int×Int×Int×Int×List Phase×Int×Int×Bool×Int×Int×Int×Int×Int×List Innings×Unit
def _root_.Go.Mir.mkX (x:TM):Match:=(mkM x.1 x.2.1 x.2.2.1 x.2.2.2.1 x.2.2.2.2.1 x.2.2.2.2.2.1 x.2.2.2.2.2.2.1 x.2.2.2.2.2.2.2.1 x.2.2.2.2.2.2.2.2.1 x.2.2.2.2.2.2.2.2.2.1 x.2.2.2.2.2.2.2.2.2.2.1 x.2.2.2.2.2.2.2.2.2.2.2.1 x.2.2.2.2.2.2.2.2.2.2.2.2.1 x.2.2.2.2.2.2.2.2.2.2.2.2.2.1 x.2.2.2.2.2.2.2.2.2.2.2.2.2.2.1 x.2.2.2.2.2.2.2.2.2.2.2.2.2.2.2.1 x.2.2.2.2.2.2.2.2.2.2.2.2.2.2.2.2.1 x.2.2.2.2.2.2.2.2.2.2.2.2.2.2.2.2.2.1 x.2.2.2.2.2.2.2.2.2.2.2.2.2.2.2.2.2.2.1 x.2.2.2.2.2.2.2.2.2.2.2.2.2.2.2.2.2.2.2.1 x.2.2.2.2.2.2.2.2.2.2.2.2.2.2.2.2.2.2.2.2.1 x.2.2.2.2.2.2.2.2.2.2.2.2.2.2.2.2.2.2.2.2.2.1 x.2.2.2.2.2.2.2.2.2.2.2.2.2.2.2.2.2.2.2.2.2.2.1)
def HM:Ty:= .prod (.slice (.nm .Phase)) .unit
def w2:Den HM→PRes:=fun x=>⟨[x.1.length≤1000000],.osl 0 0,[⟨.nm .Phase,x.1⟩]⟩
def xH:FuncId×Ctr:=(225,ar KE HM w2)
def rJ:Den (tyP qRu)→List Prop×Den (tyP qRu):=fun x=>([x.1.Power.length≤1000000],(x.1,()))
def vU:Den (tyP qM)→List Prop×Den (tyP qMo):=fun x=>([aI x.1],(x.1.Rules.Name,x.1.Rules.Side,x.1.Rules.Innings,x.1.Rules.Overs,x.1.Rules.Balls,x.1.Rules.Quota,x.1.Rules.Wide,x.1.Rules.NoBall,x.1.Rules.FreeHit,x.1.Rules.NewBall,x.1.Rules.FollowOn,x.1.Rules.Reviews,x.1.Rules.Outside,x.1.Rules.Power,x.1.Stage,x.1.First,x.1.Follow,x.1.Penalty.1,x.1.Penalty.2.1,x.1.Result.Win,x.1.Result.Side,x.1.Result.Margin,x.1.Innings,()))
def qV (r:Rules):Match:=if az r != 0 then Match.zero else { Match.zero with Rules:=r,Stage:=1 }
def JT:Den (tyP qRu)→List Prop×Den (tyP yx):=fun x=>([],(qV x.1,az x.1,()))
abbrev Kn:List (Nat×PB):= [(0,.dat (.nm .Match)),(1,.dat (.nm .Match)),(2,.row 3 (.nm .Innings))]
abbrev qCl:Pat:=⟨[(1,.c (.ptr 0 0)),(2,.c (.ptr 1 0)),(3,.c (.osl 2 3)),(11,.h GG),(12,.h I),(13,.h I)],Kn,4⟩
abbrev xCl:List (Lf×Pat):= [(.ext 0,⟨[(1,.c (.ptr 0 0)),(2,.c (.ptr 1 0)),(3,.c (.osl 2 3))],Kn,4⟩)]
abbrev TCl:Type:=List Innings×Int×Int×Match×Match×List Innings×Unit
def th (x:TCl):Prop:=(x.2.1 =(x.1.length:Int)∧0≤x.2.2.1∧x.2.2.1≤x.2.1∧x.1.length≤1000000)∧fo x.1∧(x.2.2.2.2.2.1.length:Int)≤x.2.2.1
def CI (x:TCl):Nat:=(x.2.1 - x.2.2.1).toNat
def ml (x:TCl):Match×Match×List Innings×Unit:=(x.2.2.2.1,x.2.2.2.2.1,x.2.2.2.2.2.1++x.1.drop x.2.2.1.toNat,())
theorem mD {r:Rules} (h:az r=0):1≤r.Innings∧r.Innings≤2:=by
 have hr:cH r=true:=by
  cases hr:cH r with
  | true=>rfl
  | false=>
   unfold az at h
   cases hn:mh r.Name <;> simp [hn,hr] at h
 simp only [cH,aU,Bool.and_eq_true,decide_eq_true_eq] at hr
 omega
theorem oz {r:Rules} (h:az r=0):r.Power.length≤8:=by
 unfold az at h
 cases hn:mh r.Name with
 | false=>simp [hn] at h
 | true=>
  cases hr:cH r with
  | false=>simp [hn,hr] at h
  | true=>
   cases ha:ux r with
   | true=>simp [hn,hr,ha] at h
   | false=>
    cases hc:uE r with
    | true=>simp [hn,hr,ha,hc] at h
    | false=>
     simp [hn,hr,ha,hc] at h
     unfold fC at h
     split at h
     ·cases h
     ·omega
theorem Aq (x:List Phase) (hs:x.length≤1000000) :(evFn (an [] Tryz.f225) (fun _=>none) Tryz.f225 (bh HM (x,()))).sat fun v' rows=>leV v' (w2 (x,())).v∧rows =(w2 (x,())).rows:=by
 refine cast (by kernel_rfl) (?_ :(x.isEmpty=true→(nat_lit 0=nat_lit 0∧nat_lit 0=nat_lit 0)∧ [RowD.mk (Ty.nm Nm.Phase) []]=[RowD.mk (Ty.nm Nm.Phase) x])∧((0:Nat)+x.length) *(24:Nat)≤(70368744177664:Nat)∧(nat_lit 0=nat_lit 0∧nat_lit 0=nat_lit 0)∧ [RowD.mk (Ty.nm Nm.Phase) ([]++x)]=[RowD.mk (Ty.nm Nm.Phase) x])
 refine ⟨fun h=>⟨⟨rfl,rfl⟩,?_⟩,?_,⟨rfl,rfl⟩,rfl⟩
 ·have:x=[]:=List.isEmpty_iff.1 h
  subst this;rfl
 ·omega
theorem CS:CtrOK Tryz.prog KE 225 (ar KE HM w2):=by
 refine aR (C:=an [] Tryz.f225) (al (CtrsOK.nil) _) mixed (fn:=Tryz.f225) Tryz.func225 (by kernel_rfl) (by kernel_rfl) (by kernel_rfl) (Λ:=fun _ _=>none) ?_ ?_ ?_
 ·exact fun _ _ _ _ _ _ _ _ h=>by cases h
 ·rintro ⟨x,⟨⟩⟩
  exact of_decide_eq_true (by kernel_rfl)
 ·rintro ⟨x,⟨⟩⟩ hw hn
  exact Aq x (hn _ (List.mem_singleton.2 rfl))
theorem AG (r:Rules) (hs:r.Power.length≤1000000) :(evPat (an [xH] Tryz.f141) (fun _=>none) Tryz.f141 qRu qRu (r,())).sat fun z_=>z_ =(rJ (r,())).2:=by
 refine cast (by kernel_rfl) (?_:r.14.length≤(1000000:Nat)∧(r,()) =(r,()))
 exact ⟨hs,rfl⟩
def ng:FuncId×Ctr:=(141,af KE qRu qRu rJ)
theorem tM:CtrOK Tryz.prog KE 141 (af KE qRu qRu rJ):=by
 refine ax (C:=an [xH] Tryz.f141) (al (.consU CS rfl .nil) _) mixed (fn:=Tryz.f141) Tryz.func141 (by kernel_rfl) (by kernel_rfl) (by kernel_rfl) (by kernel_rfl) (by kernel_rfl) (by kernel_rfl) (Λ:=fun _ _=>none) ?_ ?_
 ·exact fun _ _ _ _ _ _ _ _ h=>by cases h
 ·rintro ⟨r,⟨⟩⟩ hw hn
  exact AG r (hn _ List.mem_cons_self)
noncomputable def lpCl:Lp:=(⟨0,an [cV] Tryz.f67,(fun _=>none),(aE Tryz.f67 0),qCl,xCl⟩:Lp)
theorem J6 (xs:List Innings) (n:Int) (i:Int) (m:Match) (z:Match) (l:List Innings) (hi:th (xs,n,i,m,z,l,())) :(Go.Mir.stepG lpCl ml (fun y:Den (tyP lpCl.q)=>th y∧CI y<CI (xs,n,i,m,z,l,())) (xs,n,i,m,z,l,())∧Go.Mir.stepE lpCl ml (xs,n,i,m,z,l,())=ml (xs,n,i,m,z,l,())):=by
 refine cast (by kernel_rfl) (?_:let r1:List Innings:= [xs.getD i.toNat (dflt (Ty.nm Nm.Innings))];((decide (i<n)=true→((0:Int)≤i∧i <(↑xs.length:Int))∧ah (xs.getD i.toNat (dflt (Ty.nm Nm.Innings)))∧(l.length+r1.length) *(304:Nat)≤(70368744177664:Nat)∧th (xs,n,IntKind.i64.wrap (i +(1:Int)),m,z,l++r1,())∧CI (xs,n,IntKind.i64.wrap (i +(1:Int)),m,z,l++r1,())<CI (xs,n,i,m,z,l,()))∧(decide (i<n)=false→True))∧(bif decide (i<n) then ml (xs,n,IntKind.i64.wrap (i +(1:Int)),m,z,l++r1,()) else (m,z,l,()))=ml (xs,n,i,m,z,l,()))
 intro r1
 clear_value (hr1:r1=_)
 obtain ⟨⟨h1,h2,h3,h4⟩,hs,h5⟩:=hi
 simp only at h1 h2 h3 h4 h5 hs
 refine ⟨⟨fun h=>?_,fun _=>trivial⟩,?_⟩
 ·have h:i<n:=of_decide_eq_true h
  rw [bM (n:=i+1) (by omega) (by omega),hr1]
  have hl:i.toNat<xs.length:=by omega
  refine ⟨⟨h2,by omega⟩,hs _ (iK hl _),?_,⟨⟨h1,by simp only;omega,by simp only;omega,h4⟩,hs,?_⟩,by simp only [CI];omega⟩
  ·simp only [List.length_singleton];omega
  ·simp only [List.length_append,List.length_singleton];omega
 ·by_cases h:i<n
  ·have e:xs.drop i.toNat=xs.getD i.toNat (dflt (Ty.nm Nm.Innings))::xs.drop (i+1).toNat:=dT h2 (by omega) _
   rw [decide_eq_true h,cond_true,bM (n:=i+1) (by omega) (by omega)]
   simp only [ml]
   rw [e,hr1,List.append_assoc,List.singleton_append]
  ·rw [decide_eq_false h,cond_false]
   simp only [ml]
   rw [c7 (l:=xs) (by omega),List.append_nil]
noncomputable def IX:LoopSum:=bf lpCl ml th
noncomputable def IH:Nat:=rid (aE Tryz.f67 0)
theorem Jv:LoopOKp Tryz.prog 0 Tryz.f67.ntmps (aE Tryz.f67 0) (bf lpCl ml th):=
 bT lpCl (al (.consU fH rfl .nil) _) mixed (fun b hb S hS=>by cases hS) ml th CI (fun |⟨xs,n,i,m,z,l,⟨⟩⟩,hi=>J6 xs n i m z l hi)
theorem Ds (m:Match) (hs:aI m) :(evPat (an [ng] Tryz.f67) (find [(IH,IX)]) Tryz.f67 qM qMo (m,())).sat fun z_=>z_ =(vU (m,())).2:=by
 refine cast (by kernel_rfl) (?_:m.1.14.length≤(1000000:Nat)∧((fh fun x=>none)∧((↑m.5.length:Int) =(↑m.5.length:Int)∧(0:Int)≤(0:Int)∧(0:Int)≤(↑m.5.length:Int)∧m.5.length≤(1000000:Nat))∧fo m.5∧(↑(0:Nat):Int)≤(0:Int))∧(m.1.1,m.1.2,m.1.3,m.1.4,m.1.5,m.1.6,m.1.7,m.1.8,m.1.9,m.1.10,m.1.11,m.1.12,m.1.13,m.1.14,m.2,m.3,m.4,m.6.1,m.6.2.1,m.7.1,m.7.2,m.7.3,[]++List.drop (Int.toNat (0:Int)) m.5,()) =(m.1.1,m.1.2,m.1.3,m.1.4,m.1.5,m.1.6,m.1.7,m.1.8,m.1.9,m.1.10,m.1.11,m.1.12,m.1.13,m.1.14,m.2,m.3,m.4,m.6.1,m.6.2.1,m.7.1,m.7.2,m.7.3,m.5,()))
 exact ⟨hs.2.2,⟨rfl,⟨rfl,Int.le_refl _,by omega,hs.2.1⟩,hs.1,Int.le_refl _⟩,rfl⟩
def BJ:FuncId×Ctr:=(67,af KE qM qMo vU)
theorem E8:CtrOK Tryz.prog KE 67 (af KE qM qMo vU):=by
 refine ax (C:=an [ng] Tryz.f67) (al (.consU tM rfl .nil) _) mixed (fn:=Tryz.f67) Tryz.func67 (by kernel_rfl) (by kernel_rfl) (by kernel_rfl) (by kernel_rfl) (by kernel_rfl) (by kernel_rfl) (Λ:=fun x=>find [(IH,IX)]) ?_ ?_
 ·rintro ⟨m,⟨⟩⟩ hw hn
  exact LoopsOKp.at (by kernel_rfl) (.cons (by kernel_rfl) (Jv) .nil)
 ·rintro ⟨m,⟨⟩⟩ hw hn
  exact Ds m (hn _ List.mem_cons_self)
theorem H6 (r:Rules) :(evPat (an [k85,ng] Tryz.f68) (fun _=>none) Tryz.f68 qRu yx (r,())).sat fun z_=>z_ =(JT (r,())).2:=by
 refine cast (by kernel_rfl) (?_:let r1:Mir.Result:=Result.mk (0:Int) (0:Int) (0:Int);((az r !=(0:Int))=true→(Match.mk (Rules.mk ByteArray.empty (0:Int) (0:Int) (0:Int) (0:Int) (0:Int) (0:Int) (0:Int) false (0:Int) (0:Int) (0:Int) (0:Int) []) (0:Int) (0:Int) false [] ((0:Int),(0:Int),()) r1,az r,()) =(qV r,az r,()))∧((az r !=(0:Int))=false→r.14.length≤(1000000:Nat)∧(Match.mk r (1:Int) (0:Int) false [] ((0:Int),(0:Int),()) r1,(0:Int),()) =(qV r,az r,())))
 intro r1
 clear_value (hr1:r1=_)
 subst hr1
 refine ⟨fun h=>?_,fun h=>⟨?_,?_⟩⟩
 ·simp only [qV,h,if_true];rfl
 ·have:=oz (r:=r) (by simpa using h);omega
 ·have h0:az r=0:=by simpa using h
  simp only [qV,h0];rfl
def tD:FuncId×Ctr:=(68,af KE qRu yx JT)
theorem Aa:CtrOK Tryz.prog KE 68 (af KE qRu yx JT):=by
 refine ax (C:=an [k85,ng] Tryz.f68) (al (.consU vw rfl (.consU tM rfl .nil)) _) mixed (fn:=Tryz.f68) Tryz.func68 (by kernel_rfl) (by kernel_rfl) (by kernel_rfl) (by kernel_rfl) (by kernel_rfl) (by kernel_rfl) (Λ:=fun _ _=>none) ?_ ?_
 ·exact fun _ _ _ _ _ _ _ _ h=>by cases h
 ·rintro ⟨r,⟨⟩⟩ hw hn
  exact H6 r
end Go.Proofs.YthaeofeigglbhaaGreatDoor
namespace Go.Proofs.YthaeofeigglbhaaGreatDoor
open Go Go.Mir
def dM (m:Match):Innings:=m.Innings.getD (m.Innings.length - 1) Innings.zero
def sg (w s k:Int):Mir.Result:={ Win:=w,Side:=s,Margin:=k }
def s8 (m:Match):Bool:=(m.Innings.length:Int)==BS m
def lB (m:Match):Bool:=(m.Innings.length:Int)==3&&decide (ki m (dM m).Side<ki m (dk (dM m).Side))
def Ef (m:Match) (x:Innings):Mir.Result:=
 if decide (x.Runs≥x.Target) then sg 2 x.Side (W (W (m.Rules.Side - 1) - x.Wickets))
 else if x.Runs==W (x.Target - 1) then sg 4 0 0 else sg 1 (dk x.Side) (W (W (x.Target - 1) - x.Runs))
def ch (m:Match):Mir.Result:=
 if !aM m ||(m.Innings.length:Int)==0 then Mir.Result.zero
 else if (dM m).Ending==5 then sg (dx m.Rules) 0 0
 else if (dM m).Ending==0 then Mir.Result.zero
 else if s8 m then Ef m (dM m)
 else if lB m then sg 3 (dk (dM m).Side) (W (ki m (dk (dM m).Side) - ki m (dM m).Side))
 else Mir.Result.zero
def Ix (m:Match):Int:=W (ki m m.First - ki m (dk m.First))
def uC (m:Match):Bool:=(m.Innings.length:Int)==2&&(decide (m.Rules.FollowOn>0)&&decide (Ix m≥m.Rules.FollowOn))
def rS (m:Match) (s:Int):Match:={ m with Stage:=s }
def Im (m:Match):Match:={ m with Stage:=5,Result:=ch (rS m 5) }
def ak (m:Match):Match:=
 if m.Stage != 3 ||(dM m).Ending==0 then m
 else if s8 m||lB m then Im m
 else if uC m then rS m 4 else rS m 2
def ib (s:Int) (xs:List Innings):Nat→Option Nat
 | 0=>none
 | k+1=>if (xs.getD k Innings.zero).Side==s then some k else ib s xs k
def DP (m:Match) (s:Int):Match:={ m with Penalty:=if s==1 then (W (m.Penalty.1+5),m.Penalty.2.1,()) else (m.Penalty.1,W (m.Penalty.2.1+5),()) }
def DB (m:Match) (k:Nat) (x:Innings):Match:={ m with Innings:=m.Innings.set k x }
def Ja (m:Match) (s:Int):Option Nat→Match
 | some k=>DB m k (Ah (m.Innings.getD k Innings.zero))
 | none=>DP m s
def aq (m:Match) (s:Int):Match:=Ja m s (ib s m.Innings m.Innings.length)
def CR (m:Match):Nat:=m.Innings.length - 1
def dZ (m:Match) (e:Mir.Event):Int:=if m.Stage != 3 then 1 else cL m.Rules (dM m) e
def rm (m:Match) (e:Mir.Event):Match:=DB m (CR m) (dw m.Rules (dM m) e)
def zf (m:Match) (e:Mir.Event):Bool:=e.Kind==13&&e.Side !=(dw m.Rules (dM m) e).Side
def aj (m:Match) (e:Mir.Event):Match:=if dZ m e != 0 then m else if zf m e then aq (rm m e) e.Side else rm m e
def cD (m:Match):Int:=cJ m m.Innings.length
def tU (m:Match) (s:Int):Int:=if s==1 then m.Penalty.1 else m.Penalty.2.1
def pK (m:Match):Int:=l4 m.Rules (cD m) (fE m (cD m)) (tU m (cD m))
def xh (m:Match):Innings:=my m.Rules (cD m) (fE m (cD m)) (tU m (cD m))
def bd (m:Match) (e:Mir.Event):Int:=if m.Stage != 2 then 1 else if pK m != 0 then 1 else cL m.Rules (xh m) e
def xa (m:Match) (s:Int):Match:={ m with Penalty:=if s==1 then (0,m.Penalty.2.1,()) else (m.Penalty.1,0,()) }
def rb (m:Match) (e:Mir.Event):Match:={ xa m (cD m) with Innings:=m.Innings++[dw m.Rules (xh m) e],Stage:=3 }
def ab (m:Match) (e:Mir.Event):Match:=if bd m e != 0 then m else rb m e
def Gy (m:Match) (e:Mir.Event):Match:={ m with First:=if e.Yes then e.Side else dk e.Side,Stage:=2 }
def Bl (m:Match) (e:Mir.Event):Match:={ m with Follow:=e.Yes,Stage:=2 }
def bj (m:Match):Match:=if m.Stage==3 then DB m (CR m) { dM m with Ending:=5 } else m
def dc (m:Match):Match:={ bj m with Stage:=5,Result:=sg (dx m.Rules) 0 0 }
def bl (m:Match) (e:Mir.Event):Int:=
 if e.Kind==1 then (if m.Stage != 1 then 1 else 0) else if e.Kind==2 then bd m e
 else if e.Kind==12 then (if m.Stage != 4 then 1 else if e.Side != m.First then 2 else 0) else if e.Kind==16 then 0 else dZ m e
def la (m:Match) (e:Mir.Event):Match:=
 if e.Kind==1 then Gy m e else if e.Kind==2 then ab m e else if e.Kind==12 then Bl m e else if e.Kind==16 then dc m else aj m e
def ag (m:Match) (e:Mir.Event):Match:=if bl m e != 0 then m else la m e
def bb (m:Match) (e:Mir.Event):Int:=if !aM m||bc e != 0 then 1 else if m.Stage==5 then 26 else bl m e
def bG (m:Match) (e:Mir.Event):Match:=if bb m e != 0 then m else ak (ag m e)
theorem y6 {m:Match} (h:aM m=true):az m.Rules=0:=by
 simp only [aM,Bool.and_eq_true,beq_iff_eq] at h
 exact h.1
theorem EN {m:Match} (h:az m.Rules=0):BS m=2*m.Rules.Innings:=by
 have:=mD h
 unfold BS
 exact bM (by omega) (by omega)
theorem oV {m:Match} (h:aM m=true):fL m=false:=by
 simp only [aM,Bool.and_eq_true,Bool.not_eq_true'] at h
 exact h.2.2.2.1
theorem uu {m:Match} (h:aM m=true) :(m.Innings.length:Int)≤2*m.Rules.Innings∧m.Innings.length≤4:=by
 have hc:=y6 h
 have h1:=oV h
 have h2:=mD hc
 have h3:=EN hc
 unfold BS W at h3
 simp only [fL,Bool.or_eq_false_iff,decide_eq_false_iff_not,W,h3] at h1
 omega
theorem gV {m:Match} (h:aM m=true) (h3:m.Stage=3):0<m.Innings.length:=by
 simp only [aM,jo,Bool.and_eq_true] at h
 have h4:=h.2.2.2.2.2
 simp only [h3,Bool.or_eq_true,bne_iff_ne,ne_eq,not_true_eq_false,false_or,decide_eq_true_eq] at h4
 omega
theorem y7 {m:Match} (h:aM m=true) (h2:m.Stage=2):m.First=1∨m.First=2:=by
 have h1:=oV h
 simp only [fL,Bool.or_eq_false_iff,Bool.and_eq_false_iff,decide_eq_false_iff_not,h2] at h1
 obtain ⟨⟨⟨⟨⟨⟨q1,q2,_⟩,q3⟩,_⟩,_⟩,_⟩,_⟩:=h1
 simp at q3
 omega
theorem DV {m:Match} (h:aM m=true) (h2:m.Stage=2):cD m=1∨cD m=2:=by
 unfold cD cJ dk W
 rcases y7 h h2 with h|h <;> rw [h] <;> split <;> decide
theorem uh {l:List Innings} (h:fo l) (k:Nat) {y:Innings} (hy:ah y):fo (l.set k y):=fun z hz=>by
 rcases List.mem_or_eq_of_mem_set hz with h1|h1
 ·exact h z h1
 ·rw [h1];exact hy
theorem DD {l:List Innings} (h:fo l) {y:Innings} (hy:ah y):fo (l++[y]):=fun z hz=>by
 rcases List.mem_append.1 hz with h1|h1
 ·exact h z h1
 ·rw [List.mem_singleton.1 h1];exact hy
theorem A6 {x:Innings} (h:ah x):ah (Ah x):=h
theorem lr {r:Rules} {x:Innings} (e:Mir.Event) (h:ah x):ah (dw r x e):=by
 cases hL:cL r x e != 0 with
 | true=>rw [nD hL];exact h
 | false=>
  have h0:cL r x e=0:=by simpa using hL
  have hv:bZ r x=true:=by
   cases hv:bZ r x with
   | true=>rfl
   | false=>simp [cL,hv] at h0
  have hp:ah (uX (ay r x e) e):=rj e (lz hv)
  have:dw r x e=xp r (uX (ay r x e) e):=by unfold dw;rw [hL];rfl
  rw [this]
  unfold xp
  split
  ·exact hp
  ·exact hp
theorem mz (r:Rules) (s t p:Int):ah (my r s t p):=by
 unfold my
 split
 ·simp [ah,Innings.zero]
 ·rename_i h
  have h0:l4 r s t p=0:=by simpa using h
  have hc:az r=0:=by
   unfold l4 at h0
   split at h0
   ·exact h0
   ·rename_i h1;simpa using h1
  have:=(ku hc).1
  simp only [ah,Jb,xb,Innings.zero,List.length_replicate,List.length_nil]
  omega
theorem jn {m:Match} (h:iH m):ah (dM m):=by
 unfold dM
 by_cases hl:m.Innings.length - 1<m.Innings.length
 ·exact h _ (iK hl _)
 ·rw [List.getD_eq_getElem?_getD,List.getElem?_eq_none (by omega)];simp [ah,Innings.zero]
theorem EP {xs:List Innings} (h:0<xs.length) (h2:xs.length≤1000000) :(W ((xs.length:Int) - 1)).toNat=xs.length - 1:=by
 unfold W
 rw [bM (n:=(xs.length:Int) - 1) (by omega) (by omega)]
 omega
end Go.Proofs.YthaeofeigglbhaaGreatDoor
namespace Go.Proofs.YthaeofeigglbhaaGreatDoor
open Go Go.Mir
attribute [local irreducible] Go.Mir.DT.sat Go.Mir.evPat Go.Mir.RT.sat Go.Mir.evFn
abbrev HW:Pat:=cm [.nm .Result]
def rF:Den (tyP qM)→List Prop×Den (tyP HW):=fun x=>([iH x.1],(ch x.1,()))
theorem yU (m:Match) (hm:iH m) :(evPat (an [px,fz,gd,lN] Tryz.f220) (fun _=>none) Tryz.f220 qM HW (m,())).sat fun z_=>z_ =(rF (m,())).2:=by
 refine cast (by kernel_rfl) (?_:let r1:Int:=IntKind.i64.wrap ((↑m.5.length:Int) - (1:Int));let r2:Bool:=bif !aM m then true else (↑m.5.length:Int) ==(0:Int);let r3:Bool:=(↑m.5.length:Int)==IntKind.i64.wrap ((2:Int)*m.1.3);let r4:Innings:=m.5.getD r1.toNat (dflt (Ty.nm Nm.Innings));let r5:Int:=dk r4.1;let r6:Int:=ki m r4.1;let r7:Int:=ki m r5;let r8:Bool:=r4.23 ==(5:Int);let r9:Bool:=r4.23 ==(0:Int);let r10:Int:=IntKind.i64.wrap (r4.2 - (1:Int));let r11:Bool:=bif r3 then r4.4==r10 else false;let r12:Bool:=bif (↑m.5.length:Int) ==(3:Int) then decide (r6<r7) else false;let r13:Bool:=bif r3 then decide (r4.4≥r4.2) else false;(iH m∧((!aM m)=true→True)∧((!aM m)=false→True))∧(true=true→(r2=true→(Result.mk (0:Int) (0:Int) (0:Int),()) =(ch m,()))∧(r2=false→((0:Int)≤r1∧r1 <(↑m.5.length:Int))∧(r8=true→(Result.mk (dx m.1) (0:Int) (0:Int),()) =(ch m,()))∧(r8=false→(r9=true→(Result.mk (0:Int) (0:Int) (0:Int),()) =(ch m,()))∧(r9=false→(r13=true→(Result.mk (2:Int) r4.1 (IntKind.i64.wrap (IntKind.i64.wrap (m.1.2 - (1:Int)) - r4.5)),()) =(ch m,()))∧(r13=false→(r11=true→(Result.mk (4:Int) (0:Int) (0:Int),()) =(ch m,()))∧(r11=false→(r3=true→(Result.mk (1:Int) r5 (IntKind.i64.wrap (r10 - r4.4)),()) =(ch m,()))∧(r3=false→(r12=true→(Result.mk (3:Int) r5 (IntKind.i64.wrap (r7 - r6)),()) =(ch m,()))∧(r12=false→(Result.mk (0:Int) (0:Int) (0:Int),()) =(ch m,()))))))))))
 intro r1 r2 r3 r4 r5 r6 r7 r8 r9 r10 r11 r12 r13
 clear_value (hr1:r1=_) (hr2:r2=_) (hr3:r3=_) (hr4:r4=_) (hr5:r5=_) (hr6:r6=_) (hr7:r7=_) (hr8:r8=_) (hr9:r9=_) (hr10:r10=_) (hr11:r11=_) (hr12:r12=_) (hr13:r13=_)
 have ev:r2 =(!aM m ||(m.Innings.length:Int)==0):=by rw [hr2];cases aM m <;> rfl
 refine ⟨⟨hm,fun _=>trivial,fun _=>trivial⟩,fun _=>⟨fun h=>?_,fun h=>?_⟩⟩
 ·have:ch m=Mir.Result.zero:=by unfold ch;rw [←ev,h];rfl
  rw [this];rfl
 ·have hv:aM m=true∧m.Innings.length≠0:=by rw [ev] at h;simpa using h
  have h4:=(uu hv.1).2
  have e1:r1.toNat=m.Innings.length - 1:=by rw [hr1];exact EP (by omega) (by omega)
  have e0:r1 =(m.Innings.length:Int) - 1:=by rw [hr1];exact bM (by omega) (by omega)
  have e4:r4=dM m:=by rw [hr4,e1];rfl
  subst e4
  have e12:r12=lB m:=by rw [hr12,hr6,hr7,hr5];unfold lB;cases (m.Innings.length:Int)==3 <;> rfl
  have e3:r3=s8 m:=hr3
  have hO:ch m=if r8 then sg (dx m.Rules) 0 0 else if r9 then Mir.Result.zero else if r3 then Ef m (dM m) else if r12 then sg 3 r5 (W (r7 - r6)) else Mir.Result.zero:=by
   rw [e12,e3,hr8,hr9,hr5,hr6,hr7,hr5];unfold ch;rw [←ev,h];rfl
  have hF:Ef m (dM m)=if decide ((dM m).Runs≥(dM m).Target) then sg 2 (dM m).Side (W (W (m.Rules.Side - 1) - (dM m).Wickets)) else if (dM m).Runs==r10 then sg 4 0 0 else sg 1 r5 (W (r10 - (dM m).Runs)):=by rw [hr10,hr5];rfl
  rw [hO,hF]
  clear hO hF e12 e3 hr1 hr2 hr3 hr4 hr5 hr6 hr7 hr8 hr9 hr10 hr12 ev
  refine ⟨⟨by omega,by omega⟩,fun a=>?_,fun a=>⟨fun b=>?_,fun b=>⟨fun c=>?_,fun c=>⟨fun d=>?_,fun d=>⟨fun f=>?_,fun f=>⟨fun g=>?_,fun g=>?_⟩⟩⟩⟩⟩⟩
  ·rw [a];rfl
  ·rw [a,b];rfl
  ·rw [c] at hr13
   cases r3 with
   | false=>cases hr13
   | true=>rw [a,b];simp only [cond_true] at hr13;rw [←hr13];rfl
  ·rw [c] at hr13
   rw [d] at hr11
   cases r3 with
   | false=>cases hr11
   | true=>rw [a,b];simp only [cond_true] at hr13 hr11;rw [←hr13,←hr11];rfl
  ·subst f
   rw [c] at hr13
   rw [d] at hr11
   rw [a,b];simp only [cond_true] at hr13 hr11;rw [←hr13,←hr11];rfl
  ·rw [a,b,f,g];rfl
  ·rw [a,b,f,g];rfl
def tE:FuncId×Ctr:=(220,af KE qM HW rF)
theorem Ab:CtrOK Tryz.prog KE 220 (af KE qM HW rF):=by
 refine ax (C:=an [px,fz,gd,lN] Tryz.f220) (al (.consU yc rfl (.consU kY rfl (.consU mi rfl (.consU q9 rfl .nil)))) _) mixed (fn:=Tryz.f220) Tryz.func220 (by kernel_rfl) (by kernel_rfl) (by kernel_rfl) (by kernel_rfl) (by kernel_rfl) (by kernel_rfl) (Λ:=fun _ _=>none) ?_ ?_
 ·exact fun _ _ _ _ _ _ _ _ h=>by cases h
 ·rintro ⟨m,⟨⟩⟩ hw hn
  exact yU m (hn _ List.mem_cons_self)
end Go.Proofs.YthaeofeigglbhaaGreatDoor
