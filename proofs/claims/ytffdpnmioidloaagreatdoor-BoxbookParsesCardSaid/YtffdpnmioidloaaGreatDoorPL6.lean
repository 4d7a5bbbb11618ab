/- Texts of the mirror and contracts, put together. -/
import Derived.Test.YtffdpnmioidloaaGreatDoorPL5
import Derived.Test.YtffdpnmioidloaaGreatDoorPL2
import Derived.LoopN
namespace Go.Proofs.YtffdpnmioidloaaGreatDoor
open Go Go.Mir Go.RowKit
attribute [local irreducible] Go.Mir.DT.sat Go.Mir.evPat Go.Mir.RT.sat Go.Mir.evFn Go.Mir.Rg.stepS
abbrev qBr:Pat:=⟨[(0,.h .str),(2,.c (.ptr 0 0)),(3,.c (.ptr 1 0)),(4,.c (.ptr 2 0))],[(0,.cells [.c .any,.c .any,.c .any,.c .any,.c .any,.c .any,.c .any,.c .any,.c .any,.c .any]),(1,.cells [.c .any]),(2,.cells [.h I,.c (.osl 3 4),.c (.osl 5 6),.h I,.h I,.h I,.h I,.h I,.h I,.h I]),(3,.row 4 (.nm .Box)),(5,.row 6 (.nm .Strip))],7⟩
abbrev qBx:Pat:=⟨[(2,.c (.ptr 0 0)),(3,.c (.ptr 1 0))],[(0,.dat (.nm .Book)),(1,.cells [.h I])],2⟩
noncomputable def rgB:Rg:=⟨0,Tryz.f15.ntmps,qBr,qBx,5,10,Px Tryz.f15 0,20000⟩
abbrev TBr:Type:=ByteArray×Int×Int×Int×Int×Int×Int×Int×Int×List Mir.Box×List Mir.Strip×Unit
abbrev TBx:Type:=Mir.Book×Int×Unit
def stB (s:ByteArray) (b:Mir.Book):TBr:=(s,b.Side,b.Extras.Wides,b.Extras.NoBalls,b.Extras.Byes,b.Extras.LegByes,b.Extras.Penalties,b.Total,b.Wickets,b.Boxes,b.Strips,())
def bkB:TBr→Mir.Book
 |(_,s,x1,x2,x3,x4,x5,t,w,a,c,_)=>mkB s x1 x2 x3 x4 x5 t w a c
def jI (n:Nat) (b:Mir.Book):Prop:=(b.Boxes.length≤n∧b.Strips.length≤n)∧(∀ x∈b.Boxes,a8 x.Symbols≤20100)∧∀ x∈b.Strips,a8 x.Symbols≤20100
def zM (n:Nat) (y:TBr):Prop:=jI n (bkB y)
def CG (s:ByteArray):Option Mir.Book→Sum TBx TBr
 | some b=> .inr (stB s b)
 | none=> .inl (Mir.Book.zero,(4:Int),())
def gF (x:ByteArray):List ByteArray:=bX (kj x nlV) 32
def uv (x:ByteArray) (y:TBr):Sum TBx TBr:=CG y.1 (cQ (bkB y) (gF x))
theorem zf (c:UInt8) :∀ l:List UInt8,((cS c l).map fun s=>s.length+1).sum=l.length+1
 | []=>rfl
 | b::l=>by
  have ih:=zf c l
  unfold cS
  split
  ·simp only [List.map_cons,List.sum_cons,List.length_nil,List.length_cons]
   omega
  ·cases h:cS c l with
   | nil=>exact absurd h (xk c l)
   | cons x r=>
    rw [h] at ih
    simp only [List.map_cons,List.sum_cons,List.length_cons] at *
    omega
theorem oM (s:ByteArray) (c:UInt8):a8 (bX s c)=s.size+1:=by
 have h:=zf c s.data.toList
 unfold a8 bX
 rw [List.map_map]
 have e :((fun s:ByteArray=>s.size+1) ∘ toB)=fun s=>s.length+1:=by funext l;show (toB l).size+1=_;rw [tI]
 rw [e,h,Array.length_toList]
 rfl
theorem mM (l:List ByteArray) :∀ k,a8 (l.drop k)≤a8 l:=by
 intro k
 have h:=JO (l.take k) (l.drop k)
 rw [List.take_append_drop] at h
 omega
theorem zy {n:Nat} {b c:Mir.Book} {l:List ByteArray} (h:jI n b) (hl:a8 l≤20100) (ht:cQ b l=some c):jI (n+1) c:=by
 obtain ⟨⟨h1,h2⟩,h3,h4⟩:=h
 cases l with
 | nil=>cases ht
 | cons z m=>
  have hz:=cm z m
  have ht :(if z.toList==bookV.toList then c7 b m else if z.toList==boxV.toList then cZ b m else if z.toList==stripV.toList then cA b m else none)=some c:=ht
  split at ht
  ·unfold c7 at ht
   split at ht
   ·cases ht
   ·cases hI:aG (m.take 8) with
    | none=>rw [hI] at ht;cases ht
    | some v=>rw [hI] at ht;cases ht;exact ⟨⟨Nat.le_succ_of_le h1,Nat.le_succ_of_le h2⟩,h3,h4⟩
  split at ht
  ·unfold cZ at ht
   split at ht
   ·cases ht
   ·cases hI:aG (m.take 2) with
    | none=>rw [hI] at ht;cases ht
    | some v=>
     rw [hI] at ht;cases ht
     refine ⟨⟨?_,Nat.le_succ_of_le h2⟩,fun x hx=>?_,h4⟩
     ·show (b.Boxes++[_]).length≤n+1
      rw [List.length_append];exact Nat.succ_le_succ h1
     ·rcases List.mem_append.1 hx with hx|hx
      ·exact h3 x hx
      ·rcases List.mem_singleton.1 hx with rfl
       have:=mM m 2
       show a8 (m.drop 2)≤20100
       omega
  split at ht
  ·unfold cA at ht
   split at ht
   ·cases ht
   ·cases hI:aG [m.getD 0 ⟨#[]⟩,m.getD 2 ⟨#[]⟩] with
    | none=>rw [hI] at ht;cases ht
    | some v=>
     rw [hI,Option.bind_some] at ht
     split at ht
     ·cases ht
     ·cases ht
      refine ⟨⟨Nat.le_succ_of_le h1,?_⟩,h3,fun x hx=>?_⟩
      ·show (b.Strips++[_]).length≤n+1
       rw [List.length_append];exact Nat.succ_le_succ h2
      ·rcases List.mem_append.1 hx with hx|hx
       ·exact h4 x hx
       ·rcases List.mem_singleton.1 hx with rfl
        have:=mM m 3
        show a8 (m.drop 3)≤20100
        omega
  ·cases ht
theorem RJ (x s:ByteArray) (a0 a1 a2 a3 a4 a5 a6 a7:Int) (bx:List Mir.Box) (sx:List Mir.Strip) (n:Nat) (hx:x.size≤20000) (hn:n<20000) (hr:zM n (s,a0,a1,a2,a3,a4,a5,a6,a7,bx,sx,())):rgB.stepS (aA [qj,HW,D7] Tryz.f15) (fun _=>none) (zM (n+1)) x (s,a0,a1,a2,a3,a4,a5,a6,a7,bx,sx,()) (uv x (s,a0,a1,a2,a3,a4,a5,a6,a7,bx,sx,())):=by
 refine cast (by kernel_rfl) (?_:let r1:ByteArray:=kj x (ByteArray.mk #[10]);let r2:List ByteArray:=QM (r1,ByteArray.mk #[32],());let r3:Bool×Int×Int×Int×Int×Int×Int×Int×Int×List Mir.Box×List Mir.Strip×PUnit:=Jb (mkB a0 a1 a2 a3 a4 a5 a6 a7 bx sx) (cQ (mkB a0 a1 a2 a3 a4 a5 a6 a7 bx sx) r2);let r4:Bool:=!r3.1;x.size.le (1000000:Nat)∧(r1.size≤(1000000:Nat)∧nat_lit 1=nat_lit 1)∧(((0:Nat)<r2.length∧r2.length≤(1000000:Nat))∧bx.length≤(1000000:Nat)∧sx.length≤(1000000:Nat))∧(r4=true→uv x (s,a0,a1,a2,a3,a4,a5,a6,a7,bx,sx,())=Sum.inl (Mir.Book.mk (0:Int) [] [] (Mir.Extras.mk (0:Int) (0:Int) (0:Int) (0:Int) (0:Int)) (0:Int) (0:Int),(4:Int),()))∧(r4=false→uv x (s,a0,a1,a2,a3,a4,a5,a6,a7,bx,sx,())=Sum.inr (s,r3.2)∧zM (n +(1:Nat)) (s,r3.2)))
 intro r1 r2 r3 r4
 clear_value (hr1:r1=_) (hr2:r2=_) (hr3:r3=_) (hr4:r4=_)
 have e1:r1=kj x nlV:=hr1
 have e2:r2=gF x:=by rw [hr2,e1];rfl
 have hz1:r1.size≤x.size:=by rw [e1];exact nW _ _
 have hw:a8 r2≤20001:=by
  rw [e2]
  unfold gF
  rw [oM,←e1]
  omega
 have hl:=cu r2
 have hp:0<r2.length:=by rw [e2];exact rn _ _
 have hr':jI n (mkB a0 a1 a2 a3 a4 a5 a6 a7 bx sx):=hr
 obtain ⟨⟨f1,f2⟩,f3,f4⟩:=hr'
 have f1:bx.length≤n:=f1
 have f2:sx.length≤n:=f2
 have eR:uv x (s,a0,a1,a2,a3,a4,a5,a6,a7,bx,sx,())=CG s (cQ (mkB a0 a1 a2 a3 a4 a5 a6 a7 bx sx) r2):=by rw [e2];rfl
 rw [eR]
 refine ⟨Nat.le_trans hx (by decide),⟨by omega,rfl⟩,⟨⟨hp,by omega⟩,by omega,by omega⟩,fun h4=>?_,fun h4=>?_⟩
 ·cases hT:cQ (mkB a0 a1 a2 a3 a4 a5 a6 a7 bx sx) r2 with
  | none=>rfl
  | some c=>rw [hr4,hr3,hT] at h4;exact Bool.noConfusion h4
 ·cases hT:cQ (mkB a0 a1 a2 a3 a4 a5 a6 a7 bx sx) r2 with
  | none=>rw [hr4,hr3,hT] at h4;exact Bool.noConfusion h4
  | some c=>
   have hf:=zy hr (by omega) hT
   rw [hT] at hr3
   rw [hr3]
   exact ⟨rfl,hf⟩
end Go.Proofs.YtffdpnmioidloaaGreatDoor
namespace Go.Proofs.YtffdpnmioidloaaGreatDoor
open Go Go.Mir Go.RowKit
attribute [local irreducible] Go.Mir.DT.sat Go.Mir.evPat Go.Mir.RT.sat Go.Mir.evFn Go.Mir.Rg.stepS
def hdC:Code→Code
 | .seq a _=>a
 | c=>c
def tlC:Code→Code
 | .seq _ b=>b
 | c=>c
noncomputable abbrev bdP:Code:=jk Tryz.f15
noncomputable abbrev R0P:Code:=hdC bdP
noncomputable abbrev R1P:Code:=hdC (tlC bdP)
noncomputable abbrev R2P:Code:=hdC (hdC (tlC (tlC bdP)))
noncomputable abbrev RGP:Code:=tlC (hdC (tlC (tlC bdP)))
def Rp:Code→Option Oper
 | .block _ (.rangeFunc _ _ (.region _ ops _) _)=>ops[0]?
 | _=>none
def SK (c:Code):TypeId:=match Rp c with|some o=>o.type|none=>0
def Rs (c:Code):String:=match Rp c with|some o=>o.pos|none=>""
def BJ (s:ByteArray) (y:TBr):Sum TBx TBr:=nU uv (bl s) y
noncomputable def cfP:Cfg:=aA [Ow,KU] Tryz.f15
noncomputable def trB:St→Tr:=Bm (aY cfP (fun _=>none) R0P) (Bm (aY cfP (fun _=>none) R1P) (Bm (aY cfP (fun _=>none) R2P) (rgT rgB 107 (.tmp 9) BJ zM (aY cfP (fun _=>none) (GO Tryz.f15)))))
abbrev A2:Pat:=dG [.nm .Book,I]
def Dd:Den (tyP qPn)→List Prop×Den (tyP A2):=fun x=>([x.1.size≤20000],((dE x.1).1,(dE x.1).2,()))
theorem sA :∀ (k:Nat) (l:List UInt8),(iq k l).length≤l.length∧∀ x∈iq k l,x.length≤l.length
 | 0,l=>⟨Nat.zero_le _,fun x hx=>by cases hx⟩
 | k+1,l=>by
  unfold iq
  split
  ·exact ⟨Nat.zero_le _,fun x hx=>by cases hx⟩
  ·rename_i hne
   have hne:l≠ []:=fun e=>hne (by rw [e];rfl)
   have h1:=pE hne
   have h2:=List.length_pos_iff.2 hne
   obtain ⟨h3,h4⟩:=sA k (l.drop (fb l))
   rw [List.length_drop] at h3 h4
   refine ⟨by rw [List.length_cons];omega,fun x hx=>?_⟩
   rcases List.mem_cons.1 hx with rfl|hx
   ·rw [List.length_take];omega
   ·have:=h4 x hx;omega
theorem sy (s:ByteArray) :(bl s).length≤s.size∧∀ x∈bl s,x.size≤s.size:=by
 obtain ⟨h1,h2⟩:=sA (s.size+1) s.data.toList
 rw [Array.length_toList] at h1 h2
 refine ⟨by unfold bl;rw [List.length_map];exact h1,fun x hx=>?_⟩
 unfold bl at hx
 obtain ⟨y,hy,rfl⟩:=List.mem_map.1 hx
 rw [tI]
 exact h2 y hy
theorem Bd (s:ByteArray) :∀ (L:List ByteArray) (b:Mir.Book),nU uv L (stB s b)=CG s (eV (L.map gF) b)
 | [],b=>rfl
 | x::L,b=>by
  cases hT:cQ b (gF x) with
  | none=>
   have e:uv x (stB s b) = .inl (Mir.Book.zero,(4:Int),()):=by show CG s (cQ b (gF x))=_;rw [hT];rfl
   have e2:eV ((x::L).map gF) b=none:=by show (cQ b (gF x)).bind (eV (L.map gF))=none;rw [hT];rfl
   rw [e2]
   unfold nU
   rw [List.foldl_cons]
   simp only [e]
   exact pU L
  | some c=>
   have e:uv x (stB s b) = .inr (stB s c):=by show CG s (cQ b (gF x))=_;rw [hT];rfl
   have e2:eV ((x::L).map gF) b=eV (L.map gF) c:=by show (cQ b (gF x)).bind (eV (L.map gF))=_;rw [hT];rfl
   have ih:=Bd s L c
   rw [e2,←ih]
   unfold nU
   rw [List.foldl_cons]
   simp only [e]
theorem NH (s:ByteArray) (b:Mir.Book):BJ s (stB s b)=CG s (eV ((bl s).map gF) b):=Bd s _ b
theorem zE :∀ (L:List ByteArray) (n:Nat) (b c:Mir.Book),(∀ x∈L,x.size≤20000)→jI n b→eV (L.map gF) b=some c→jI (n+L.length) c
 | [],n,b,c,_,hb,h=>by cases h;exact hb
 | x::L,n,b,c,hL,hb,h=>by
  have h :(cQ b (gF x)).bind (eV (L.map gF))=some c:=h
  cases hT:cQ b (gF x) with
  | none=>rw [hT] at h;cases h
  | some d=>
   rw [hT] at h
   have hx:=hL x List.mem_cons_self
   have hw:a8 (gF x)≤20100:=by
    have:=nW x nlV
    unfold gF
    rw [oM]
    omega
   have:=zE L (n+1) d c (fun y hy=>hL y (List.mem_cons_of_mem _ hy)) (zy hb hw hT) h
   rw [List.length_cons]
   have e:n +(L.length+1)=n+1+L.length:=by omega
   rw [e]
   exact this
theorem Ha:CfgOK Tryz.prog cfP:=an (.consU Lg rfl (.consU I9 rfl .nil)) _
theorem NM:bdP = .seq R0P (.seq R1P (.seq (.seq R2P (.block 0 (.rangeFunc (.tmp 9) #[rgB.sp] (.region 3 #[⟨some rgB.sl,.assign (.tmp rgB.sp),SK RGP,Rs RGP,#[],none⟩] false) rgB.body))) (GO Tryz.f15))):=by kernel_rfl
theorem Qa (n:Nat) (x:ByteArray) (y:TBr) (hi:zM n y) (hx:x.size≤rgB.nb) (hn:n<rgB.nb) :∃ (C:Cfg) (Λ:Nat→Option LoopSum),CfgOK Tryz.prog C∧C.N=rgB.N∧(∀ b∈aD Λ rgB.body,∃ S,Λ (rid b)=some S∧qG Tryz.prog rgB.q.nx C.N b S)∧rgB.stepS C Λ (zM (n+1)) x y (uv x y):=by
 obtain ⟨s,a0,a1,a2,a3,a4,a5,a6,a7,bx,sx,⟨⟩⟩:=y
 exact ⟨aA [qj,HW,D7] Tryz.f15,fun _=>none,an (.consU ya rfl (.consU Li rfl (.consU I8 rfl .nil))) _,rfl,IU (by kernel_rfl),RJ x s a0 a1 a2 a3 a4 a5 a6 a7 bx sx n hx hn hi⟩
theorem Qp:TrM Tryz.prog Tryz.f15.ntmps 0 bdP trB:=by
 rw [NM]
 exact EW (yM Ha mixed (fun b hb S hS=>by cases hS)) (EW (yM Ha mixed (fun b hb S hS=>by cases hS)) (J4 (yM Ha mixed (fun b hb S hS=>by cases hS))
  (LI rgB mixed (LB:=bl) (fun args w=>by kernel_rfl) (fun bx s0 h=>FT bx s0 (Nat.le_trans h (by decide))) (by kernel_rfl) (by kernel_rfl) (res:=uv) (all:=BJ) (inv:=zM) (fun s=>(sy s).1) (fun _ _=>rfl) Qa (yM Ha mixed (fun b hb S hS=>by cases hS)))))
theorem RK (s:ByteArray) (hs:s.size≤20000) :(pX cfP.tb Tryz.f15.results.toList 0 A2 (put qPn (s,())) (trB (put qPn (s,())))).sat fun z_=>z_ =(Dd (s,())).2:=by
 refine cast (by kernel_rfl) (?_:let r1:Bool:=isL (BJ s (s,(0:Int),(0:Int),(0:Int),(0:Int),(0:Int),(0:Int),(0:Int),(0:Int),[],[],()));let r2:ByteArray×Int×Int×Int×Int×Int×Int×Int×Int×List Mir.Box×List Mir.Strip×PUnit:=gA (dflt (Ty.str.prod (I.prod (I.prod (I.prod (I.prod (I.prod (I.prod (I.prod (I.prod ((Ty.nm Nm.Box).slice.prod ((Ty.nm Nm.Strip).slice.prod Ty.unit)))))))))))) (BJ s (s,(0:Int),(0:Int),(0:Int),(0:Int),(0:Int),(0:Int),(0:Int),(0:Int),[],[],()));let r3:Mir.Book:=Mir.Book.mk r2.2.1 r2.2.2.2.2.2.2.2.2.2.1 r2.2.2.2.2.2.2.2.2.2.2.1 (Mir.Extras.mk r2.2.2.1 r2.2.2.2.1 r2.2.2.2.2.1 r2.2.2.2.2.2.1 r2.2.2.2.2.2.2.1) r2.2.2.2.2.2.2.2.1 r2.2.2.2.2.2.2.2.2.1;let r4:ByteArray×Int:=aR r3;let r5:Bool:=bif r4.2 !=(0:Int) then true else !r4.1.toList==r2.1.toList;((cY fun x=>none)∧s.size≤(20000:Nat)∧zM (0:Nat) (s,(0:Int),(0:Int),(0:Int),(0:Int),(0:Int),(0:Int),(0:Int),(0:Int),[],[],()))∧(r1=true→gz (dflt ((Ty.nm Nm.Book).prod (I.prod Ty.unit))) (BJ s (s,(0:Int),(0:Int),(0:Int),(0:Int),(0:Int),(0:Int),(0:Int),(0:Int),[],[],())) =((dE s).1,(dE s).2,()))∧(r1=false→((r2.2.2.2.2.2.2.2.2.2.1.length≤(20000:Nat)∧r2.2.2.2.2.2.2.2.2.2.2.1.length≤(20000:Nat))∧Nz r2.2.2.2.2.2.2.2.2.2.1∧NA r2.2.2.2.2.2.2.2.2.2.2.1)∧(r5=true→(Mir.Book.mk (0:Int) [] [] (Mir.Extras.mk (0:Int) (0:Int) (0:Int) (0:Int) (0:Int)) (0:Int) (0:Int),(4:Int),()) =((dE s).1,(dE s).2,()))∧(r5=false→(r3,(0:Int),()) =((dE s).1,(dE s).2,()))))
 intro r1 r2 r3 r4 r5
 clear_value (hr1:r1=_) (hr2:r2=_) (hr3:r3=_) (hr4:r4=_) (hr5:r5=_)
 have eA:BJ s (s,0,0,0,0,0,0,0,0,[],[],())=CG s (eV ((bl s).map gF) Mir.Book.zero):=NH s Mir.Book.zero
 have eP:dE s=rv s (eV ((bl s).map gF) Mir.Book.zero):=rfl
 have f0:jI 0 Mir.Book.zero:=⟨⟨Nat.le_refl _,Nat.le_refl _⟩,(fun x hx=>by cases hx),fun x hx=>by cases hx⟩
 obtain ⟨l1,l2⟩:=sy s
 rw [eA] at hr1 hr2 ⊢
 rw [eP]
 refine ⟨⟨rfl,hs,f0⟩,fun h1=>?_,fun h1=>?_⟩
 ·cases hF:eV ((bl s).map gF) Mir.Book.zero with
  | none=>rfl
  | some b=>rw [hr1,hF] at h1;exact Bool.noConfusion h1
 ·cases hF:eV ((bl s).map gF) Mir.Book.zero with
  | none=>rw [hr1,hF] at h1;exact Bool.noConfusion h1
  | some b=>
   have hf:=zE _ 0 _ _ (fun x hx=>Nat.le_trans (l2 x hx) hs) f0 hF
   obtain ⟨⟨g1,g2⟩,g3,g4⟩:=hf
   have e2:r2=stB s b:=by rw [hr2,hF];rfl
   have e3:r3=b:=by rw [hr3,e2];rfl
   have e5:r5 =((aR b).2 != 0 ||(aR b).1.toList != s.toList):=by
    rw [hr5,hr4,e3,e2]
    cases (aR b).2 != 0 <;> rfl
   have eO:rv s (some b)=if r5=true then (Mir.Book.zero,4) else (b,0):=by rw [e5];rfl
   rw [eO,e2,e3]
   refine ⟨⟨⟨?_,?_⟩,g3,g4⟩,fun h5=>?_,fun h5=>?_⟩
   ·show b.Boxes.length≤20000;omega
   ·show b.Strips.length≤20000;omega
   ·rw [if_pos h5];rfl
   ·rw [if_neg (by rw [h5];decide)]
def zQ:FuncId×Ctr:=(15,ag KE qPn A2 Dd)
theorem F1:CtrOK Tryz.prog KE 15 (ag KE qPn A2 Dd):=by
 refine AU (C:=cfP) Ha (fn:=Tryz.f15) Tryz.func15 (by kernel_rfl) (by kernel_rfl) (by kernel_rfl) (by kernel_rfl) (by kernel_rfl) (by kernel_rfl) ?_
 rintro ⟨s,⟨⟩⟩ hw hn c hc
 have eb:Tryz.f15.body=some bdP:=by kernel_rfl
 have ec:c=bdP:=Option.some.inj (hc.symm.trans eb)
 rw [ec]
 exact ⟨trB (put qPn (s,())),Qp _,RK s (hn _ List.mem_cons_self)⟩
end Go.Proofs.YtffdpnmioidloaaGreatDoor
namespace Go.Proofs.YtffdpnmioidloaaGreatDoor
open Go Go.Mir Go.RowKit
attribute [local irreducible] Go.Mir.DT.sat Go.Mir.evPat Go.Mir.RT.sat Go.Mir.evFn
def eqL {α:Type} (f:α→α→Bool):List α→List α→Bool
 | [],[]=>true
 | x::a,y::b=>f x y&&eqL f a b
 | _,_=>false
def sS (x y:ByteArray):Bool:=x.toList==y.toList
def bm (x y:Mir.Box):Bool:=x.Over==y.Over&&x.Bowler==y.Bowler&&eqL sS x.Symbols y.Symbols
def aE (x y:Mir.Strip):Bool:=x.Player==y.Player&&x.How==y.How&&x.Bowler==y.Bowler&&eqL sS x.Symbols y.Symbols
def zw (x y:Mir.Extras):Bool:=x.Wides==y.Wides&&x.NoBalls==y.NoBalls&&x.Byes==y.Byes&&x.LegByes==y.LegByes&&x.Penalties==y.Penalties
def mi (a b:Mir.Book):Bool:=a.Side==b.Side&&zw a.Extras b.Extras&&a.Total==b.Total&&a.Wickets==b.Wickets&&eqL bm a.Boxes b.Boxes&&eqL aE a.Strips b.Strips
abbrev qS2:Pat:=dG [.slice .str,.slice .str]
def Gl:Den (tyP qS2)→List Prop×Den (tyP bs):=fun x=>([],(eqL sS x.1 x.2.1,()))
abbrev qE0:Pat:=⟨[(0,.h (.slice .str)),(1,.h (.slice .str)),(12,.h I),(13,.h I)],[],0⟩
abbrev xE0:List (Lf×Pat):= [(.ext 0,⟨[],[],0⟩),(.ret,⟨[(4,.h .bool)],[],0⟩)]
abbrev TE0:Type:=List ByteArray×List ByteArray×Int×Int×Unit
def eqO (k:Bool):Sum Unit (Bool×Unit):=if k then .inl () else .inr (false,())
def cO:TE0→Sum Unit (Bool×Unit)
 |(a,b,_,i,_)=>eqO (eqL sS (a.drop i.toNat) (b.drop i.toNat))
def lr:TE0→Prop
 |(a,b,n,i,_)=>(n =(a.length:Int)∧a.length=b.length∧a.length≤au)∧0≤i∧i≤n
def uo:TE0→Nat
 |(_,_,n,i,_)=>(n - i).toNat
abbrev qB2:Pat:=dG [.nm .Box,.nm .Box]
def Db:Den (tyP qB2)→List Prop×Den (tyP bs):=fun x=>([],(bm x.1 x.2.1,()))
abbrev qT2:Pat:=dG [.nm .Strip,.nm .Strip]
def tc:Den (tyP qT2)→List Prop×Den (tyP bs):=fun x=>([],(aE x.1 x.2.1,()))
abbrev qFb (f:Nat):Pat:=⟨[(0,.h Bxs),(1,.h Bxs),(2,.c (.fn f []))],[],0⟩
def PD (f:Nat):Den (tyP (qFb f))→List Prop×Den (tyP bs):=fun x=>([],(eqL bm x.1 x.2.1,()))
abbrev qE1 (f:Nat):Pat:=⟨[(1,.h Bxs),(2,.c (.fn f [])),(15,.h Bxs),(16,.h I),(17,.h I)],[],0⟩
abbrev xE1:List (Lf×Pat):= [(.ext 0,⟨[],[],0⟩),(.ret,⟨[(6,.h .bool)],[],0⟩)]
abbrev TE1:Type:=List Mir.Box×List Mir.Box×Int×Int×Unit
def jT:TE1→Sum Unit (Bool×Unit)
 |(b,a,_,i,_)=>eqO (eqL bm (a.drop i.toNat) (b.drop i.toNat))
def vc:TE1→Prop
 |(b,a,n,i,_)=>(n =(a.length:Int)∧a.length=b.length∧a.length≤au)∧0≤i∧i≤n
def Il:TE1→Nat
 |(_,_,n,i,_)=>(n - i).toNat
abbrev qFs (f:Nat):Pat:=⟨[(0,.h Sts),(1,.h Sts),(2,.c (.fn f []))],[],0⟩
def JE (f:Nat):Den (tyP (qFs f))→List Prop×Den (tyP bs):=fun x=>([],(eqL aE x.1 x.2.1,()))
abbrev qE2 (f:Nat):Pat:=⟨[(1,.h Sts),(2,.c (.fn f [])),(15,.h Sts),(16,.h I),(17,.h I)],[],0⟩
abbrev TE2:Type:=List Mir.Strip×List Mir.Strip×Int×Int×Unit
def jU:TE2→Sum Unit (Bool×Unit)
 |(b,a,_,i,_)=>eqO (eqL aE (a.drop i.toNat) (b.drop i.toNat))
def vd:TE2→Prop
 |(b,a,n,i,_)=>(n =(a.length:Int)∧a.length=b.length∧a.length≤au)∧0≤i∧i≤n
def Im:TE2→Nat
 |(_,_,n,i,_)=>(n - i).toNat
abbrev qBb:Pat:=dG [.nm .Book,.nm .Book]
def wy:Den (tyP qBb)→List Prop×Den (tyP bs):=fun x=>([],(mi x.1 x.2.1,()))
abbrev QY:List (Nat×PB):= [(0,.dat (.nm .Book)),(1,.dat (.nm .Book))]
abbrev qR0:Pat:=⟨[(2,.c (.ptr 0 0)),(3,.c (.ptr 1 0)),(56,.h Bxs),(57,.h I),(58,.h I)],QY,2⟩
abbrev xR0:List (Lf×Pat):= [(.ext 0,⟨[(2,.c (.ptr 0 0)),(3,.c (.ptr 1 0))],QY,2⟩),(.ret,⟨[(4,.h .bool)],[],0⟩)]
abbrev TR0:Type:=List Mir.Box×Int×Int×Mir.Book×Mir.Book×Unit
def jf:TR0→Sum (Mir.Book×Mir.Book×Unit) (Bool×Unit)
 |(l,_,i,a,b,_)=>if eqL bm (l.drop i.toNat) (b.Boxes.drop i.toNat) then .inl (a,b,()) else .inr (false,())
def vw:TR0→Prop
 |(l,n,i,_,b,_)=>(n =(l.length:Int)∧l.length=b.Boxes.length∧l.length≤au)∧0≤i∧i≤n
def IE:TR0→Nat
 |(_,n,i,_)=>(n - i).toNat
abbrev qR1:Pat:=⟨[(3,.c (.ptr 0 0)),(90,.h Sts),(91,.h I),(92,.h I)],[(0,.dat (.nm .Book))],1⟩
abbrev xR1:List (Lf×Pat):= [(.ext 2,⟨[],[],0⟩),(.ret,⟨[(4,.h .bool)],[],0⟩)]
abbrev TR1:Type:=List Mir.Strip×Int×Int×Mir.Book×Unit
def jY:TR1→Sum Unit (Bool×Unit)
 |(l,_,i,b,_)=>eqO (eqL aE (l.drop i.toNat) (b.Strips.drop i.toNat))
def vx:TR1→Prop
 |(l,n,i,b,_)=>(n =(l.length:Int)∧l.length=b.Strips.length∧l.length≤au)∧0≤i∧i≤n
def IG:TR1→Nat
 |(_,n,i,_)=>(n - i).toNat
theorem Kb {n:Nm} {x:n.T} (h:wfD (.nm n) x):wfD n.flds (n.to x):=by
 obtain ⟨S,w,cs,h⟩:=h
 cases h with
 | nm h=>exact ⟨_,_,_,h⟩
theorem kz {α:Type} (f:α→α→Bool) :∀ a b:List α,a.length≠b.length→eqL f a b=false
 | [],[],h=>absurd rfl h
 | [],_::_,_=>rfl
 | _::_,[],_=>rfl
 | x::a,y::b,h=>by
  show (f x y&&eqL f a b)=false
  rw [kz f a b (fun e=>h (by rw [List.length_cons,List.length_cons,e])),Bool.and_false]
theorem lJ {α:Type} {f:α→α→Bool} (h :∀ x,f x x=true) :∀ a:List α,eqL f a a=true
 | []=>rfl
 | x::a=>by show (f x x&&eqL f a a)=true;rw [h x,lJ h a];rfl
theorem EI (x:ByteArray):sS x x=true:=by unfold sS;simp
theorem BP (x:Mir.Box):bm x x=true:=by unfold bm;rw [lJ EI];simp
theorem yI (x:Mir.Strip):aE x x=true:=by unfold aE;rw [lJ EI];simp
theorem Gn (b:Mir.Book):mi b b=true:=by unfold mi zw;rw [lJ BP,lJ yI];simp
theorem Gm (k e1 e2 e3 e4 e5 t w x y:Bool) :(bif k then bif e1&&(e2&&(e3&&(e4&&(e5&&true)))) then bif t then bif w then bif x then y else false else false else false else false else false) =(k&&(e1&&e2&&e3&&e4&&e5)&&t&&w&&x&&y):=by
 cases k <;> cases t <;> cases w <;> cases x <;> simp [Bool.and_assoc]
theorem GV (k w x:Bool) :(bif !k then true else bif !w then true else !x)=!(k&&w&&x):=by cases k <;> cases w <;> cases x <;> rfl
theorem Dk (k w v x:Bool) :(bif !k then true else bif !w then true else bif !v then true else !x)=!(k&&w&&v&&x):=by cases k <;> cases w <;> cases v <;> cases x <;> rfl
theorem Jr (k e1 e2 e3 e4 e5 t w x y:Bool) :(bif !k then true else bif !(e1&&(e2&&(e3&&(e4&&(e5&&true))))) then true else bif !t then true else bif !w then true else bif !x then true else !y)=!(((((k&&(e1&&e2&&e3&&e4&&e5))&&t)&&w)&&x)&&y):=by
 cases k <;> cases t <;> cases w <;> cases x <;> cases y <;> simp [Bool.and_assoc]
noncomputable def lpE0:Lp:=(⟨0,aA [] Tryz.f56,(fun _=>none),(ao Tryz.f56 0),qE0,xE0⟩:Lp)
theorem PP (a:List ByteArray) (b:List ByteArray) (n:Int) (i:Int) (hi:lr (a,b,n,i,())) :(Go.Mir.stepG lpE0 cO (fun y:Den (tyP lpE0.q)=>lr y∧uo y<uo (a,b,n,i,())) (a,b,n,i,())∧Go.Mir.stepE lpE0 cO (a,b,n,i,())=cO (a,b,n,i,())):=by
 refine cast (by kernel_rfl) (?_:let r1:Bool:=!ByteArray.toList (a.getD i.toNat (dflt Ty.str))==ByteArray.toList (b.getD i.toNat (dflt Ty.str));((decide (i<n)=true→((0:Int)≤i∧i <(↑a.length:Int))∧((0:Int)≤i∧i <(↑b.length:Int))∧(r1=true→True)∧(r1=false→lr (a,b,n,IntKind.i64.wrap (i +(1:Int)),())∧uo (a,b,n,IntKind.i64.wrap (i +(1:Int)),())<uo (a,b,n,i,())))∧(decide (i<n)=false→True))∧(bif decide (i<n) then bif r1 then Sum.inr (false,()) else cO (a,b,n,IntKind.i64.wrap (i +(1:Int)),()) else Sum.inl ())=cO (a,b,n,i,()))
 intro r1
 clear_value (hr1:r1=_)
 obtain ⟨⟨h1,h1b,h1c⟩,h2,h3⟩:=hi
 have h1:n =(a.length:Int):=h1
 have h1b:a.length=b.length:=h1b
 have h1c:a.length≤140737488355328:=h1c
 have h2:0≤i:=h2
 have h3:i≤n:=h3
 by_cases h:i<n
 ·have e1:IntKind.i64.wrap (i+1)=i+1:=wrap64 (by omega) (by omega)
  have da:a.drop i.toNat=a.getD i.toNat (dflt (Ty.str))::a.drop (i+1).toNat:=aL h2 (by omega) _
  have db:b.drop i.toNat=b.getD i.toNat (dflt (Ty.str))::b.drop (i+1).toNat:=aL h2 (by omega) _
  generalize a.getD i.toNat (dflt (Ty.str))=x at *
  generalize b.getD i.toNat (dflt (Ty.str))=z at *
  have er:r1=!sS x z:=hr1
  have key:cO (a,b,n,i,())=bif r1 then .inr (false,()) else cO (a,b,n,i+1,()):=by
   show eqO (eqL sS (a.drop i.toNat) (b.drop i.toNat))=bif r1 then .inr (false,()) else eqO (eqL sS (a.drop (i+1).toNat) (b.drop (i+1).toNat))
   rw [da,db,er]
   have:eqL sS (x::a.drop (i+1).toNat) (z::b.drop (i+1).toNat) =(sS x z&&eqL sS (a.drop (i+1).toNat) (b.drop (i+1).toNat)):=rfl
   rw [this]
   cases sS x z <;> rfl
  rw [decide_eq_true h,e1,key]
  refine ⟨⟨fun _=>⟨⟨h2,by omega⟩,⟨h2,by omega⟩,fun _=>trivial,fun _=>⟨⟨⟨h1,h1b,h1c⟩,?_,?_⟩,?_⟩⟩,fun z=>Bool.noConfusion z⟩,rfl⟩
  ·show 0≤i+1;omega
  ·show i+1≤n;omega
  ·show (n - (i+1)).toNat <(n - i).toNat;omega
 ·rw [decide_eq_false h]
  refine ⟨⟨fun z=>Bool.noConfusion z,fun _=>trivial⟩,?_⟩
  show _=eqO (eqL sS (a.drop i.toNat) (b.drop i.toNat))
  rw [aF (l:=a) (by omega),aF (l:=b) (by omega)]
  rfl
noncomputable def M3:LoopSum:=ah lpE0 cO lr
noncomputable def Mp:Nat:=rid (ao Tryz.f56 0)
theorem Oy:LoopOKp Tryz.prog 0 Tryz.f56.ntmps (ao Tryz.f56 0) (ah lpE0 cO lr):=
 ax lpE0 (an (CtrsOK.nil) _) mixed (fun b hb S hS=>by cases hS) cO lr uo (fun |⟨a,b,n,i,⟨⟩⟩,hi=>PP a b n i hi)
theorem Jz (a:List ByteArray) (b:List ByteArray) (hx:a.length≤au) :(evPat (aA [] Tryz.f56) (find [(Mp,M3)]) Tryz.f56 qS2 bs (a,b,())).sat fun z_=>z_ =(Gl (a,b,())).2:=by
 refine cast (by kernel_rfl) (?_:let r1:Bool:=(↑a.length:Int) !=(↑b.length:Int);let r2:Bool:=isL (cO (a,b,(↑a.length:Int),(0:Int),()));(r1=true→(false,()) =(eqL sS a b,()))∧(r1=false→((cY fun x=>none)∧((↑a.length:Int) =(↑a.length:Int)∧a.length=b.length∧a.length≤au)∧(0:Int)≤(0:Int)∧(0:Int)≤(↑a.length:Int))∧(r2=true→(true,()) =(eqL sS a b,()))∧(r2=false→gA (dflt (Ty.bool.prod Ty.unit)) (cO (a,b,(↑a.length:Int),(0:Int),())) =(eqL sS a b,()))))
 intro r1 r2
 clear_value (hr1:r1=_) (hr2:r2=_)
 have er:cO (a,b,(a.length:Int),0,())=eqO (eqL sS a b):=rfl
 rw [er] at hr2 ⊢
 refine ⟨fun h1=>?_,fun h1=>⟨⟨rfl,⟨rfl,?_,hx⟩,Int.le_refl _,by omega⟩,fun h2=>?_,fun h2=>?_⟩⟩
 ·have:a.length≠b.length:=fun e=>by rw [hr1,e] at h1;simp at h1
  rw [kz sS a b this]
 ·have :((a.length:Int) != b.length)=false:=by rw [←hr1];exact h1
  have :(a.length:Int)=b.length:=by simpa using this
  omega
 ·cases he:eqL sS a b with
  | true=>rfl
  | false=>rw [hr2,he] at h2;exact Bool.noConfusion h2
 ·cases he:eqL sS a b with
  | false=>rfl
  | true=>rw [hr2,he] at h2;exact Bool.noConfusion h2
def xR:FuncId×Ctr:=(56,ag KE qS2 bs Gl)
theorem Eu:CtrOK Tryz.prog KE 56 (ag KE qS2 bs Gl):=by
 refine aZ (C:=aA [] Tryz.f56) (an (CtrsOK.nil) _) mixed (fn:=Tryz.f56) Tryz.func56 (by kernel_rfl) (by kernel_rfl) (by kernel_rfl) (by kernel_rfl) (by kernel_rfl) (by kernel_rfl) (Λ:=fun x=>find [(Mp,M3)]) ?_ ?_
 ·rintro ⟨a,b,⟨⟩⟩ hw hn
  exact LoopsOKp.at (by kernel_rfl) (.cons (by kernel_rfl) (Oy) .nil)
 ·rintro ⟨a,b,⟨⟩⟩ hw hn
  exact Jz a b (iM (gG hw))
noncomputable def lpW0:Lp:=(⟨0,aA [] Tryz.f60,(fun _=>none),(ao Tryz.f60 0),qE0,xE0⟩:Lp)
theorem Qf (a:List ByteArray) (b:List ByteArray) (n:Int) (i:Int) (hi:lr (a,b,n,i,())) :(Go.Mir.stepG lpW0 cO (fun y:Den (tyP lpW0.q)=>lr y∧uo y<uo (a,b,n,i,())) (a,b,n,i,())∧Go.Mir.stepE lpW0 cO (a,b,n,i,())=cO (a,b,n,i,())):=by
 refine cast (by kernel_rfl) (?_:let r1:Bool:=!ByteArray.toList (a.getD i.toNat (dflt Ty.str))==ByteArray.toList (b.getD i.toNat (dflt Ty.str));((decide (i<n)=true→((0:Int)≤i∧i <(↑a.length:Int))∧((0:Int)≤i∧i <(↑b.length:Int))∧(r1=true→True)∧(r1=false→lr (a,b,n,IntKind.i64.wrap (i +(1:Int)),())∧uo (a,b,n,IntKind.i64.wrap (i +(1:Int)),())<uo (a,b,n,i,())))∧(decide (i<n)=false→True))∧(bif decide (i<n) then bif r1 then Sum.inr (false,()) else cO (a,b,n,IntKind.i64.wrap (i +(1:Int)),()) else Sum.inl ())=cO (a,b,n,i,()))
 intro r1
 clear_value (hr1:r1=_)
 obtain ⟨⟨h1,h1b,h1c⟩,h2,h3⟩:=hi
 have h1:n =(a.length:Int):=h1
 have h1b:a.length=b.length:=h1b
 have h1c:a.length≤140737488355328:=h1c
 have h2:0≤i:=h2
 have h3:i≤n:=h3
 by_cases h:i<n
 ·have e1:IntKind.i64.wrap (i+1)=i+1:=wrap64 (by omega) (by omega)
  have da:a.drop i.toNat=a.getD i.toNat (dflt (Ty.str))::a.drop (i+1).toNat:=aL h2 (by omega) _
  have db:b.drop i.toNat=b.getD i.toNat (dflt (Ty.str))::b.drop (i+1).toNat:=aL h2 (by omega) _
  generalize a.getD i.toNat (dflt (Ty.str))=x at *
  generalize b.getD i.toNat (dflt (Ty.str))=z at *
  have er:r1=!sS x z:=hr1
  have key:cO (a,b,n,i,())=bif r1 then .inr (false,()) else cO (a,b,n,i+1,()):=by
   show eqO (eqL sS (a.drop i.toNat) (b.drop i.toNat))=bif r1 then .inr (false,()) else eqO (eqL sS (a.drop (i+1).toNat) (b.drop (i+1).toNat))
   rw [da,db,er]
   have:eqL sS (x::a.drop (i+1).toNat) (z::b.drop (i+1).toNat) =(sS x z&&eqL sS (a.drop (i+1).toNat) (b.drop (i+1).toNat)):=rfl
   rw [this]
   cases sS x z <;> rfl
  rw [decide_eq_true h,e1,key]
  refine ⟨⟨fun _=>⟨⟨h2,by omega⟩,⟨h2,by omega⟩,fun _=>trivial,fun _=>⟨⟨⟨h1,h1b,h1c⟩,?_,?_⟩,?_⟩⟩,fun z=>Bool.noConfusion z⟩,rfl⟩
  ·show 0≤i+1;omega
  ·show i+1≤n;omega
  ·show (n - (i+1)).toNat <(n - i).toNat;omega
 ·rw [decide_eq_false h]
  refine ⟨⟨fun z=>Bool.noConfusion z,fun _=>trivial⟩,?_⟩
  show _=eqO (eqL sS (a.drop i.toNat) (b.drop i.toNat))
  rw [aF (l:=a) (by omega),aF (l:=b) (by omega)]
  rfl
noncomputable def Ns:LoopSum:=ah lpW0 cO lr
noncomputable def MM:Nat:=rid (ao Tryz.f60 0)
theorem OY:LoopOKp Tryz.prog 0 Tryz.f60.ntmps (ao Tryz.f60 0) (ah lpW0 cO lr):=
 ax lpW0 (an (CtrsOK.nil) _) mixed (fun b hb S hS=>by cases hS) cO lr uo (fun |⟨a,b,n,i,⟨⟩⟩,hi=>Qf a b n i hi)
theorem Bf (a:List ByteArray) (b:List ByteArray) (hx:a.length≤au) :(evPat (aA [] Tryz.f60) (find [(MM,Ns)]) Tryz.f60 qS2 bs (a,b,())).sat fun z_=>z_ =(Gl (a,b,())).2:=by
 refine cast (by kernel_rfl) (?_:let r1:Bool:=(↑a.length:Int) !=(↑b.length:Int);let r2:Bool:=isL (cO (a,b,(↑a.length:Int),(0:Int),()));(r1=true→(false,()) =(eqL sS a b,()))∧(r1=false→((cY fun x=>none)∧((↑a.length:Int) =(↑a.length:Int)∧a.length=b.length∧a.length≤au)∧(0:Int)≤(0:Int)∧(0:Int)≤(↑a.length:Int))∧(r2=true→(true,()) =(eqL sS a b,()))∧(r2=false→gA (dflt (Ty.bool.prod Ty.unit)) (cO (a,b,(↑a.length:Int),(0:Int),())) =(eqL sS a b,()))))
 intro r1 r2
 clear_value (hr1:r1=_) (hr2:r2=_)
 have er:cO (a,b,(a.length:Int),0,())=eqO (eqL sS a b):=rfl
 rw [er] at hr2 ⊢
 refine ⟨fun h1=>?_,fun h1=>⟨⟨rfl,⟨rfl,?_,hx⟩,Int.le_refl _,by omega⟩,fun h2=>?_,fun h2=>?_⟩⟩
 ·have:a.length≠b.length:=fun e=>by rw [hr1,e] at h1;simp at h1
  rw [kz sS a b this]
 ·have :((a.length:Int) != b.length)=false:=by rw [←hr1];exact h1
  have :(a.length:Int)=b.length:=by simpa using this
  omega
 ·cases he:eqL sS a b with
  | true=>rfl
  | false=>rw [hr2,he] at h2;exact Bool.noConfusion h2
 ·cases he:eqL sS a b with
  | false=>rfl
  | true=>rw [hr2,he] at h2;exact Bool.noConfusion h2
def mC:FuncId×Ctr:=(60,ag KE qS2 bs Gl)
theorem nP:CtrOK Tryz.prog KE 60 (ag KE qS2 bs Gl):=by
 refine aZ (C:=aA [] Tryz.f60) (an (CtrsOK.nil) _) mixed (fn:=Tryz.f60) Tryz.func60 (by kernel_rfl) (by kernel_rfl) (by kernel_rfl) (by kernel_rfl) (by kernel_rfl) (by kernel_rfl) (Λ:=fun x=>find [(MM,Ns)]) ?_ ?_
 ·rintro ⟨a,b,⟨⟩⟩ hw hn
  exact LoopsOKp.at (by kernel_rfl) (.cons (by kernel_rfl) (OY) .nil)
 ·rintro ⟨a,b,⟨⟩⟩ hw hn
  exact Bf a b (iM (gG hw))
theorem C6 (a:Mir.Box) (b:Mir.Box) :(evPat (aA [xR] Tryz.f55) (fun _=>none) Tryz.f55 qB2 bs (a,b,())).sat fun z_=>z_ =(Db (a,b,())).2:=by
 refine cast (by kernel_rfl) (?_ :(bif a.1==b.1 then bif a.2==b.2 then eqL sS a.3 b.3 else false else false,()) =(bm a b,()))
 show _ =(a.Over==b.Over&&a.Bowler==b.Bowler&&eqL sS a.Symbols b.Symbols,())
 cases a.Over==b.Over <;> cases a.Bowler==b.Bowler <;> rfl
def sn:FuncId×Ctr:=(55,ag KE qB2 bs Db)
theorem v7:CtrOK Tryz.prog KE 55 (ag KE qB2 bs Db):=by
 refine aZ (C:=aA [xR] Tryz.f55) (an (.consU Eu rfl .nil) _) mixed (fn:=Tryz.f55) Tryz.func55 (by kernel_rfl) (by kernel_rfl) (by kernel_rfl) (by kernel_rfl) (by kernel_rfl) (by kernel_rfl) (Λ:=fun _ _=>none) ?_ ?_
 ·exact fun _ _ _ _ _ _ _ _ h=>by cases h
 ·rintro ⟨a,b,⟨⟩⟩ hw hn
  exact C6 a b
theorem C7 (a:Mir.Strip) (b:Mir.Strip) :(evPat (aA [xR] Tryz.f57) (fun _=>none) Tryz.f57 qT2 bs (a,b,())).sat fun z_=>z_ =(tc (a,b,())).2:=by
 refine cast (by kernel_rfl) (?_ :(bif a.1==b.1 then bif a.3==b.3 then bif a.4==b.4 then eqL sS a.2 b.2 else false else false else false,()) =(aE a b,()))
 show _ =(a.Player==b.Player&&a.How==b.How&&a.Bowler==b.Bowler&&eqL sS a.Symbols b.Symbols,())
 cases a.Player==b.Player <;> cases a.How==b.How <;> cases a.Bowler==b.Bowler <;> rfl
def so:FuncId×Ctr:=(57,ag KE qT2 bs tc)
theorem v8:CtrOK Tryz.prog KE 57 (ag KE qT2 bs tc):=by
 refine aZ (C:=aA [xR] Tryz.f57) (an (.consU Eu rfl .nil) _) mixed (fn:=Tryz.f57) Tryz.func57 (by kernel_rfl) (by kernel_rfl) (by kernel_rfl) (by kernel_rfl) (by kernel_rfl) (by kernel_rfl) (Λ:=fun _ _=>none) ?_ ?_
 ·exact fun _ _ _ _ _ _ _ _ h=>by cases h
 ·rintro ⟨a,b,⟨⟩⟩ hw hn
  exact C7 a b
noncomputable def lpE1:Lp:=(⟨0,aA [sn] Tryz.f58,(fun _=>none),(ao Tryz.f58 0),(qE1 55),xE1⟩:Lp)
theorem PQ (b:List Mir.Box) (a:List Mir.Box) (n:Int) (i:Int) (hi:vc (b,a,n,i,())) :(Go.Mir.stepG lpE1 jT (fun y:Den (tyP lpE1.q)=>vc y∧Il y<Il (b,a,n,i,())) (b,a,n,i,())∧Go.Mir.stepE lpE1 jT (b,a,n,i,())=jT (b,a,n,i,())):=by
 refine cast (by kernel_rfl) (?_:let r1:Bool:=!bm (a.getD i.toNat (dflt (Ty.nm Nm.Box))) (b.getD i.toNat (dflt (Ty.nm Nm.Box)));((decide (i<n)=true→((0:Int)≤i∧i <(↑a.length:Int))∧((0:Int)≤i∧i <(↑b.length:Int))∧(r1=true→True)∧(r1=false→vc (b,a,n,IntKind.i64.wrap (i +(1:Int)),())∧Il (b,a,n,IntKind.i64.wrap (i +(1:Int)),())<Il (b,a,n,i,())))∧(decide (i<n)=false→True))∧(bif decide (i<n) then bif r1 then Sum.inr (false,()) else jT (b,a,n,IntKind.i64.wrap (i +(1:Int)),()) else Sum.inl ())=jT (b,a,n,i,()))
 intro r1
 clear_value (hr1:r1=_)
 obtain ⟨⟨h1,h1b,h1c⟩,h2,h3⟩:=hi
 have h1:n =(a.length:Int):=h1
 have h1b:a.length=b.length:=h1b
 have h1c:a.length≤140737488355328:=h1c
 have h2:0≤i:=h2
 have h3:i≤n:=h3
 by_cases h:i<n
 ·have e1:IntKind.i64.wrap (i+1)=i+1:=wrap64 (by omega) (by omega)
  have da:a.drop i.toNat=a.getD i.toNat (dflt (Ty.nm Nm.Box))::a.drop (i+1).toNat:=aL h2 (by omega) _
  have db:b.drop i.toNat=b.getD i.toNat (dflt (Ty.nm Nm.Box))::b.drop (i+1).toNat:=aL h2 (by omega) _
  generalize a.getD i.toNat (dflt (Ty.nm Nm.Box))=x at *
  generalize b.getD i.toNat (dflt (Ty.nm Nm.Box))=z at *
  have er:r1=!bm x z:=hr1
  have key:jT (b,a,n,i,())=bif r1 then .inr (false,()) else jT (b,a,n,i+1,()):=by
   show eqO (eqL bm (a.drop i.toNat) (b.drop i.toNat))=bif r1 then .inr (false,()) else eqO (eqL bm (a.drop (i+1).toNat) (b.drop (i+1).toNat))
   rw [da,db,er]
   have:eqL bm (x::a.drop (i+1).toNat) (z::b.drop (i+1).toNat) =(bm x z&&eqL bm (a.drop (i+1).toNat) (b.drop (i+1).toNat)):=rfl
   rw [this]
   cases bm x z <;> rfl
  rw [decide_eq_true h,e1,key]
  refine ⟨⟨fun _=>⟨⟨h2,by omega⟩,⟨h2,by omega⟩,fun _=>trivial,fun _=>⟨⟨⟨h1,h1b,h1c⟩,?_,?_⟩,?_⟩⟩,fun z=>Bool.noConfusion z⟩,rfl⟩
  ·show 0≤i+1;omega
  ·show i+1≤n;omega
  ·show (n - (i+1)).toNat <(n - i).toNat;omega
 ·rw [decide_eq_false h]
  refine ⟨⟨fun z=>Bool.noConfusion z,fun _=>trivial⟩,?_⟩
  show _=eqO (eqL bm (a.drop i.toNat) (b.drop i.toNat))
  rw [aF (l:=a) (by omega),aF (l:=b) (by omega)]
  rfl
noncomputable def M4:LoopSum:=ah lpE1 jT vc
noncomputable def Mq:Nat:=rid (ao Tryz.f58 0)
theorem Oz:LoopOKp Tryz.prog 0 Tryz.f58.ntmps (ao Tryz.f58 0) (ah lpE1 jT vc):=
 ax lpE1 (an (.consU v7 rfl .nil) _) mixed (fun b hb S hS=>by cases hS) jT vc Il (fun |⟨b,a,n,i,⟨⟩⟩,hi=>PQ b a n i hi)
theorem Ge (a:List Mir.Box) (b:List Mir.Box) (hx:a.length≤au) :(evPat (aA [sn] Tryz.f58) (find [(Mq,M4)]) Tryz.f58 (qFb 55) bs (a,b,())).sat fun z_=>z_ =((PD 55) (a,b,())).2:=by
 refine cast (by kernel_rfl) (?_:let r1:Bool:=(↑a.length:Int) !=(↑b.length:Int);let r2:Bool:=isL (jT (b,a,(↑a.length:Int),(0:Int),()));(r1=true→(false,()) =(eqL bm a b,()))∧(r1=false→((cY fun x=>none)∧((↑a.length:Int) =(↑a.length:Int)∧a.length=b.length∧a.length≤au)∧(0:Int)≤(0:Int)∧(0:Int)≤(↑a.length:Int))∧(r2=true→(true,()) =(eqL bm a b,()))∧(r2=false→gA (dflt (Ty.bool.prod Ty.unit)) (jT (b,a,(↑a.length:Int),(0:Int),())) =(eqL bm a b,()))))
 intro r1 r2
 clear_value (hr1:r1=_) (hr2:r2=_)
 have er:jT (b,a,(a.length:Int),0,())=eqO (eqL bm a b):=rfl
 rw [er] at hr2 ⊢
 refine ⟨fun h1=>?_,fun h1=>⟨⟨rfl,⟨rfl,?_,hx⟩,Int.le_refl _,by omega⟩,fun h2=>?_,fun h2=>?_⟩⟩
 ·have:a.length≠b.length:=fun e=>by rw [hr1,e] at h1;simp at h1
  rw [kz bm a b this]
 ·have :((a.length:Int) != b.length)=false:=by rw [←hr1];exact h1
  have :(a.length:Int)=b.length:=by simpa using this
  omega
 ·cases he:eqL bm a b with
  | true=>rfl
  | false=>rw [hr2,he] at h2;exact Bool.noConfusion h2
 ·cases he:eqL bm a b with
  | false=>rfl
  | true=>rw [hr2,he] at h2;exact Bool.noConfusion h2
def D4:FuncId×Ctr:=(58,ag KE (qFb 55) bs (PD 55))
theorem I1:CtrOK Tryz.prog KE 58 (ag KE (qFb 55) bs (PD 55)):=by
 refine aZ (C:=aA [sn] Tryz.f58) (an (.consU v7 rfl .nil) _) mixed (fn:=Tryz.f58) Tryz.func58 (by kernel_rfl) (by kernel_rfl) (by kernel_rfl) (by kernel_rfl) (by kernel_rfl) (by kernel_rfl) (Λ:=fun x=>find [(Mq,M4)]) ?_ ?_
 ·rintro ⟨a,b,⟨⟩⟩ hw hn
  exact LoopsOKp.at (by kernel_rfl) (.cons (by kernel_rfl) (Oz) .nil)
 ·rintro ⟨a,b,⟨⟩⟩ hw hn
  exact Ge a b (iM (gG hw))
noncomputable def lpE2:Lp:=(⟨0,aA [so] Tryz.f59,(fun _=>none),(ao Tryz.f59 0),(qE2 57),xE1⟩:Lp)
theorem PR (b:List Mir.Strip) (a:List Mir.Strip) (n:Int) (i:Int) (hi:vd (b,a,n,i,())) :(Go.Mir.stepG lpE2 jU (fun y:Den (tyP lpE2.q)=>vd y∧Im y<Im (b,a,n,i,())) (b,a,n,i,())∧Go.Mir.stepE lpE2 jU (b,a,n,i,())=jU (b,a,n,i,())):=by
 refine cast (by kernel_rfl) (?_:let r1:Bool:=!aE (a.getD i.toNat (dflt (Ty.nm Nm.Strip))) (b.getD i.toNat (dflt (Ty.nm Nm.Strip)));((decide (i<n)=true→((0:Int)≤i∧i <(↑a.length:Int))∧((0:Int)≤i∧i <(↑b.length:Int))∧(r1=true→True)∧(r1=false→vd (b,a,n,IntKind.i64.wrap (i +(1:Int)),())∧Im (b,a,n,IntKind.i64.wrap (i +(1:Int)),())<Im (b,a,n,i,())))∧(decide (i<n)=false→True))∧(bif decide (i<n) then bif r1 then Sum.inr (false,()) else jU (b,a,n,IntKind.i64.wrap (i +(1:Int)),()) else Sum.inl ())=jU (b,a,n,i,()))
 intro r1
 clear_value (hr1:r1=_)
 obtain ⟨⟨h1,h1b,h1c⟩,h2,h3⟩:=hi
 have h1:n =(a.length:Int):=h1
 have h1b:a.length=b.length:=h1b
 have h1c:a.length≤140737488355328:=h1c
 have h2:0≤i:=h2
 have h3:i≤n:=h3
 by_cases h:i<n
 ·have e1:IntKind.i64.wrap (i+1)=i+1:=wrap64 (by omega) (by omega)
  have da:a.drop i.toNat=a.getD i.toNat (dflt (Ty.nm Nm.Strip))::a.drop (i+1).toNat:=aL h2 (by omega) _
  have db:b.drop i.toNat=b.getD i.toNat (dflt (Ty.nm Nm.Strip))::b.drop (i+1).toNat:=aL h2 (by omega) _
  generalize a.getD i.toNat (dflt (Ty.nm Nm.Strip))=x at *
  generalize b.getD i.toNat (dflt (Ty.nm Nm.Strip))=z at *
  have er:r1=!aE x z:=hr1
  have key:jU (b,a,n,i,())=bif r1 then .inr (false,()) else jU (b,a,n,i+1,()):=by
   show eqO (eqL aE (a.drop i.toNat) (b.drop i.toNat))=bif r1 then .inr (false,()) else eqO (eqL aE (a.drop (i+1).toNat) (b.drop (i+1).toNat))
   rw [da,db,er]
   have:eqL aE (x::a.drop (i+1).toNat) (z::b.drop (i+1).toNat) =(aE x z&&eqL aE (a.drop (i+1).toNat) (b.drop (i+1).toNat)):=rfl
   rw [this]
   cases aE x z <;> rfl
  rw [decide_eq_true h,e1,key]
  refine ⟨⟨fun _=>⟨⟨h2,by omega⟩,⟨h2,by omega⟩,fun _=>trivial,fun _=>⟨⟨⟨h1,h1b,h1c⟩,?_,?_⟩,?_⟩⟩,fun z=>Bool.noConfusion z⟩,rfl⟩
  ·show 0≤i+1;omega
  ·show i+1≤n;omega
  ·show (n - (i+1)).toNat <(n - i).toNat;omega
 ·rw [decide_eq_false h]
  refine ⟨⟨fun z=>Bool.noConfusion z,fun _=>trivial⟩,?_⟩
  show _=eqO (eqL aE (a.drop i.toNat) (b.drop i.toNat))
  rw [aF (l:=a) (by omega),aF (l:=b) (by omega)]
  rfl
noncomputable def M5:LoopSum:=ah lpE2 jU vd
noncomputable def Mr:Nat:=rid (ao Tryz.f59 0)
theorem OA:LoopOKp Tryz.prog 0 Tryz.f59.ntmps (ao Tryz.f59 0) (ah lpE2 jU vd):=
 ax lpE2 (an (.consU v8 rfl .nil) _) mixed (fun b hb S hS=>by cases hS) jU vd Im (fun |⟨b,a,n,i,⟨⟩⟩,hi=>PR b a n i hi)
theorem Ba (a:List Mir.Strip) (b:List Mir.Strip) (hx:a.length≤au) :(evPat (aA [so] Tryz.f59) (find [(Mr,M5)]) Tryz.f59 (qFs 57) bs (a,b,())).sat fun z_=>z_ =((JE 57) (a,b,())).2:=by
 refine cast (by kernel_rfl) (?_:let r1:Bool:=(↑a.length:Int) !=(↑b.length:Int);let r2:Bool:=isL (jU (b,a,(↑a.length:Int),(0:Int),()));(r1=true→(false,()) =(eqL aE a b,()))∧(r1=false→((cY fun x=>none)∧((↑a.length:Int) =(↑a.length:Int)∧a.length=b.length∧a.length≤au)∧(0:Int)≤(0:Int)∧(0:Int)≤(↑a.length:Int))∧(r2=true→(true,()) =(eqL aE a b,()))∧(r2=false→gA (dflt (Ty.bool.prod Ty.unit)) (jU (b,a,(↑a.length:Int),(0:Int),())) =(eqL aE a b,()))))
 intro r1 r2
 clear_value (hr1:r1=_) (hr2:r2=_)
 have er:jU (b,a,(a.length:Int),0,())=eqO (eqL aE a b):=rfl
 rw [er] at hr2 ⊢
 refine ⟨fun h1=>?_,fun h1=>⟨⟨rfl,⟨rfl,?_,hx⟩,Int.le_refl _,by omega⟩,fun h2=>?_,fun h2=>?_⟩⟩
 ·have:a.length≠b.length:=fun e=>by rw [hr1,e] at h1;simp at h1
  rw [kz aE a b this]
 ·have :((a.length:Int) != b.length)=false:=by rw [←hr1];exact h1
  have :(a.length:Int)=b.length:=by simpa using this
  omega
 ·cases he:eqL aE a b with
  | true=>rfl
  | false=>rw [hr2,he] at h2;exact Bool.noConfusion h2
 ·cases he:eqL aE a b with
  | false=>rfl
  | true=>rw [hr2,he] at h2;exact Bool.noConfusion h2
def vI:FuncId×Ctr:=(59,ag KE (qFs 57) bs (JE 57))
theorem CB:CtrOK Tryz.prog KE 59 (ag KE (qFs 57) bs (JE 57)):=by
 refine aZ (C:=aA [so] Tryz.f59) (an (.consU v8 rfl .nil) _) mixed (fn:=Tryz.f59) Tryz.func59 (by kernel_rfl) (by kernel_rfl) (by kernel_rfl) (by kernel_rfl) (by kernel_rfl) (by kernel_rfl) (Λ:=fun x=>find [(Mr,M5)]) ?_ ?_
 ·rintro ⟨a,b,⟨⟩⟩ hw hn
  exact LoopsOKp.at (by kernel_rfl) (.cons (by kernel_rfl) (OA) .nil)
 ·rintro ⟨a,b,⟨⟩⟩ hw hn
  exact Ba a b (iM (gG hw))
theorem Gi (a:Mir.Book) (b:Mir.Book) :(evPat (aA [D4,vI] Tryz.f16) (fun _=>none) Tryz.f16 qBb bs (a,b,())).sat fun z_=>z_ =(wy (a,b,())).2:=by
 refine cast (by kernel_rfl) (?_ :(bif a.1==b.1 then bif a.4.1==b.4.1&&(a.4.2==b.4.2&&(a.4.3==b.4.3&&(a.4.4==b.4.4&&(a.4.5==b.4.5&&true)))) then bif a.5==b.5 then bif a.6==b.6 then bif eqL bm a.2 b.2 then eqL aE a.3 b.3 else false else false else false else false else false,()) =(mi a b,()))
 show _ =(a.Side==b.Side&&(a.Extras.Wides==b.Extras.Wides&&a.Extras.NoBalls==b.Extras.NoBalls&&a.Extras.Byes==b.Extras.Byes&&a.Extras.LegByes==b.Extras.LegByes&&a.Extras.Penalties==b.Extras.Penalties)&&a.Total==b.Total&&a.Wickets==b.Wickets&&eqL bm a.Boxes b.Boxes&&eqL aE a.Strips b.Strips,())
 rw [←Gm]
def D6:FuncId×Ctr:=(16,ag KE qBb bs wy)
theorem I7:CtrOK Tryz.prog KE 16 (ag KE qBb bs wy):=by
 refine aZ (C:=aA [D4,vI] Tryz.f16) (an (.consU I1 rfl (.consU CB rfl .nil)) _) mixed (fn:=Tryz.f16) Tryz.func16 (by kernel_rfl) (by kernel_rfl) (by kernel_rfl) (by kernel_rfl) (by kernel_rfl) (by kernel_rfl) (Λ:=fun _ _=>none) ?_ ?_
 ·exact fun _ _ _ _ _ _ _ _ h=>by cases h
 ·rintro ⟨a,b,⟨⟩⟩ hw hn
  exact Gi a b
noncomputable def lpR0:Lp:=(⟨0,aA [mC] Tryz.f17,(fun _=>none),(ao Tryz.f17 0),qR0,xR0⟩:Lp)
theorem P8 (l:List Mir.Box) (n:Int) (i:Int) (a:Mir.Book) (b:Mir.Book) (hi:vw (l,n,i,a,b,())) :(Go.Mir.stepG lpR0 jf (fun y:Den (tyP lpR0.q)=>vw y∧IE y<IE (l,n,i,a,b,())) (l,n,i,a,b,())∧Go.Mir.stepE lpR0 jf (l,n,i,a,b,())=jf (l,n,i,a,b,())):=by
 refine cast (by kernel_rfl) (?_:let r1:Bool:=bif (l.getD i.toNat (dflt (Ty.nm Nm.Box))).1 !=(b.2.getD i.toNat (dflt (Ty.nm Nm.Box))).1 then true else bif (l.getD i.toNat (dflt (Ty.nm Nm.Box))).2 !=(b.2.getD i.toNat (dflt (Ty.nm Nm.Box))).2 then true else !eqL sS (l.getD i.toNat (dflt (Ty.nm Nm.Box))).3 (b.2.getD i.toNat (dflt (Ty.nm Nm.Box))).3;((decide (i<n)=true→((0:Int)≤i∧i <(↑l.length:Int))∧((0:Int)≤i∧i <(↑b.2.length:Int))∧(r1=true→True)∧(r1=false→vw (l,n,IntKind.i64.wrap (i +(1:Int)),a,b,())∧IE (l,n,IntKind.i64.wrap (i +(1:Int)),a,b,())<IE (l,n,i,a,b,())))∧(decide (i<n)=false→True))∧(bif decide (i<n) then bif r1 then Sum.inr (false,()) else jf (l,n,IntKind.i64.wrap (i +(1:Int)),a,b,()) else Sum.inl (a,b,()))=jf (l,n,i,a,b,()))
 intro r1
 clear_value (hr1:r1=_)
 obtain ⟨⟨h1,h1b,h1c⟩,h2,h3⟩:=hi
 have h1:n =(l.length:Int):=h1
 have h1b:l.length=b.Boxes.length:=h1b
 have h1c:l.length≤140737488355328:=h1c
 have h2:0≤i:=h2
 have h3:i≤n:=h3
 by_cases h:i<n
 ·have e1:IntKind.i64.wrap (i+1)=i+1:=wrap64 (by omega) (by omega)
  have da:l.drop i.toNat=l.getD i.toNat (dflt (Ty.nm Nm.Box))::l.drop (i+1).toNat:=aL h2 (by omega) _
  have db:b.Boxes.drop i.toNat=b.Boxes.getD i.toNat (dflt (Ty.nm Nm.Box))::b.Boxes.drop (i+1).toNat:=aL h2 (by omega) _
  generalize l.getD i.toNat (dflt (Ty.nm Nm.Box))=x at *
  generalize b.Boxes.getD i.toNat (dflt (Ty.nm Nm.Box))=z at *
  have er:r1=!bm x z:=hr1.trans (GV _ _ _)
  have key:jf (l,n,i,a,b,())=bif r1 then .inr (false,()) else jf (l,n,i+1,a,b,()):=by
   show (if eqL bm (l.drop i.toNat) (b.Boxes.drop i.toNat) then (Sum.inl (a,b,()):Sum (Mir.Book×Mir.Book×Unit) (Bool×Unit)) else .inr (false,()))=bif r1 then .inr (false,()) else (if eqL bm (l.drop (i+1).toNat) (b.Boxes.drop (i+1).toNat) then (Sum.inl (a,b,()):Sum (Mir.Book×Mir.Book×Unit) (Bool×Unit)) else .inr (false,()))
   rw [da,db,er]
   have:eqL bm (x::l.drop (i+1).toNat) (z::b.Boxes.drop (i+1).toNat) =(bm x z&&eqL bm (l.drop (i+1).toNat) (b.Boxes.drop (i+1).toNat)):=rfl
   rw [this]
   cases bm x z <;> rfl
  rw [decide_eq_true h,e1,key]
  refine ⟨⟨fun _=>⟨⟨h2,by omega⟩,⟨h2,by omega⟩,fun _=>trivial,fun _=>⟨⟨⟨h1,h1b,h1c⟩,?_,?_⟩,?_⟩⟩,fun z=>Bool.noConfusion z⟩,rfl⟩
  ·show 0≤i+1;omega
  ·show i+1≤n;omega
  ·show (n - (i+1)).toNat <(n - i).toNat;omega
 ·rw [decide_eq_false h]
  refine ⟨⟨fun z=>Bool.noConfusion z,fun _=>trivial⟩,?_⟩
  show _ =(if eqL bm (l.drop i.toNat) (b.Boxes.drop i.toNat) then (Sum.inl (a,b,()):Sum (Mir.Book×Mir.Book×Unit) (Bool×Unit)) else .inr (false,()))
  rw [aF (l:=l) (by omega),aF (l:=b.Boxes) (by omega)]
  rfl
noncomputable def Nl:LoopSum:=ah lpR0 jf vw
noncomputable def MG:Nat:=rid (ao Tryz.f17 0)
theorem OS:LoopOKp Tryz.prog 0 Tryz.f17.ntmps (ao Tryz.f17 0) (ah lpR0 jf vw):=
 ax lpR0 (an (.consU nP rfl .nil) _) mixed (fun b hb S hS=>by cases hS) jf vw IE (fun |⟨l,n,i,a,b,⟨⟩⟩,hi=>P8 l n i a b hi)
noncomputable def lpR1:Lp:=(⟨0,aA [mC] Tryz.f17,(fun _=>none),(ao Tryz.f17 1),qR1,xR1⟩:Lp)
theorem P9 (l:List Mir.Strip) (n:Int) (i:Int) (b:Mir.Book) (hi:vx (l,n,i,b,())) :(Go.Mir.stepG lpR1 jY (fun y:Den (tyP lpR1.q)=>vx y∧IG y<IG (l,n,i,b,())) (l,n,i,b,())∧Go.Mir.stepE lpR1 jY (l,n,i,b,())=jY (l,n,i,b,())):=by
 refine cast (by kernel_rfl) (?_:let r1:Bool:=bif (l.getD i.toNat (dflt (Ty.nm Nm.Strip))).1 !=(b.3.getD i.toNat (dflt (Ty.nm Nm.Strip))).1 then true else bif (l.getD i.toNat (dflt (Ty.nm Nm.Strip))).3 !=(b.3.getD i.toNat (dflt (Ty.nm Nm.Strip))).3 then true else bif (l.getD i.toNat (dflt (Ty.nm Nm.Strip))).4 !=(b.3.getD i.toNat (dflt (Ty.nm Nm.Strip))).4 then true else !eqL sS (l.getD i.toNat (dflt (Ty.nm Nm.Strip))).2 (b.3.getD i.toNat (dflt (Ty.nm Nm.Strip))).2;((decide (i<n)=true→((0:Int)≤i∧i <(↑l.length:Int))∧((0:Int)≤i∧i <(↑b.3.length:Int))∧(r1=true→True)∧(r1=false→vx (l,n,IntKind.i64.wrap (i +(1:Int)),b,())∧IG (l,n,IntKind.i64.wrap (i +(1:Int)),b,())<IG (l,n,i,b,())))∧(decide (i<n)=false→True))∧(bif decide (i<n) then bif r1 then Sum.inr (false,()) else jY (l,n,IntKind.i64.wrap (i +(1:Int)),b,()) else Sum.inl ())=jY (l,n,i,b,()))
 intro r1
 clear_value (hr1:r1=_)
 obtain ⟨⟨h1,h1b,h1c⟩,h2,h3⟩:=hi
 have h1:n =(l.length:Int):=h1
 have h1b:l.length=b.Strips.length:=h1b
 have h1c:l.length≤140737488355328:=h1c
 have h2:0≤i:=h2
 have h3:i≤n:=h3
 by_cases h:i<n
 ·have e1:IntKind.i64.wrap (i+1)=i+1:=wrap64 (by omega) (by omega)
  have da:l.drop i.toNat=l.getD i.toNat (dflt (Ty.nm Nm.Strip))::l.drop (i+1).toNat:=aL h2 (by omega) _
  have db:b.Strips.drop i.toNat=b.Strips.getD i.toNat (dflt (Ty.nm Nm.Strip))::b.Strips.drop (i+1).toNat:=aL h2 (by omega) _
  generalize l.getD i.toNat (dflt (Ty.nm Nm.Strip))=x at *
  generalize b.Strips.getD i.toNat (dflt (Ty.nm Nm.Strip))=z at *
  have er:r1=!aE x z:=hr1.trans (Dk _ _ _ _)
  have key:jY (l,n,i,b,())=bif r1 then .inr (false,()) else jY (l,n,i+1,b,()):=by
   show eqO (eqL aE (l.drop i.toNat) (b.Strips.drop i.toNat))=bif r1 then .inr (false,()) else eqO (eqL aE (l.drop (i+1).toNat) (b.Strips.drop (i+1).toNat))
   rw [da,db,er]
   have:eqL aE (x::l.drop (i+1).toNat) (z::b.Strips.drop (i+1).toNat) =(aE x z&&eqL aE (l.drop (i+1).toNat) (b.Strips.drop (i+1).toNat)):=rfl
   rw [this]
   cases aE x z <;> rfl
  rw [decide_eq_true h,e1,key]
  refine ⟨⟨fun _=>⟨⟨h2,by omega⟩,⟨h2,by omega⟩,fun _=>trivial,fun _=>⟨⟨⟨h1,h1b,h1c⟩,?_,?_⟩,?_⟩⟩,fun z=>Bool.noConfusion z⟩,rfl⟩
  ·show 0≤i+1;omega
  ·show i+1≤n;omega
  ·show (n - (i+1)).toNat <(n - i).toNat;omega
 ·rw [decide_eq_false h]
  refine ⟨⟨fun z=>Bool.noConfusion z,fun _=>trivial⟩,?_⟩
  show _=eqO (eqL aE (l.drop i.toNat) (b.Strips.drop i.toNat))
  rw [aF (l:=l) (by omega),aF (l:=b.Strips) (by omega)]
  rfl
noncomputable def Nn:LoopSum:=ah lpR1 jY vx
noncomputable def MH:Nat:=rid (ao Tryz.f17 1)
theorem OT:LoopOKp Tryz.prog 0 Tryz.f17.ntmps (ao Tryz.f17 1) (ah lpR1 jY vx):=
 ax lpR1 (an (.consU nP rfl .nil) _) mixed (fun b hb S hS=>by cases hS) jY vx IG (fun |⟨l,n,i,b,⟨⟩⟩,hi=>P9 l n i b hi)
theorem C8 (a:Mir.Book) (b:Mir.Book) (ha:a.Boxes.length≤au∧a.Strips.length≤au) :(evPat (aA [mC] Tryz.f17) (find [(MG,Nl),(MH,Nn)]) Tryz.f17 qBb bs (a,b,())).sat fun z_=>z_ =(wy (a,b,())).2:=by
 refine cast (by kernel_rfl) (?_:let r1:Bool:=bif a.1 != b.1 then true else bif !(a.4.1==b.4.1&&(a.4.2==b.4.2&&(a.4.3==b.4.3&&(a.4.4==b.4.4&&(a.4.5==b.4.5&&true))))) then true else bif a.5 != b.5 then true else bif a.6 != b.6 then true else bif (↑a.2.length:Int) !=(↑b.2.length:Int) then true else (↑a.3.length:Int) !=(↑b.3.length:Int);let r2:Bool:=isL (jf (a.2,(↑a.2.length:Int),(0:Int),a,b,()));let r3:Mir.Book×Mir.Book×PUnit:=gz (dflt ((Ty.nm Nm.Book).prod ((Ty.nm Nm.Book).prod Ty.unit))) (jf (a.2,(↑a.2.length:Int),(0:Int),a,b,()));let r4:Int:=(↑r3.1.3.length:Int);let r5:Bool:=isL (jY (r3.1.3,r4,(0:Int),r3.2));(r1=true→(false,()) =(mi a b,()))∧(r1=false→((cY fun x=>none)∧((↑a.2.length:Int) =(↑a.2.length:Int)∧a.2.length=b.2.length∧a.2.length≤au)∧(0:Int)≤(0:Int)∧(0:Int)≤(↑a.2.length:Int))∧(r2=true→((cY fun x=>none)∧(r4 =(↑r3.1.3.length:Int)∧r3.1.3.length=r3.2.1.3.length∧r3.1.3.length≤au)∧(0:Int)≤(0:Int)∧(0:Int)≤r4)∧(r5=true→(true,()) =(mi a b,()))∧(r5=false→gA (dflt (Ty.bool.prod Ty.unit)) (jY (r3.1.3,r4,(0:Int),r3.2)) =(mi a b,())))∧(r2=false→gA (dflt (Ty.bool.prod Ty.unit)) (jf (a.2,(↑a.2.length:Int),(0:Int),a,b,())) =(mi a b,()))))
 intro r1 r2 r3 r4 r5
 clear_value (hr1:r1=_) (hr2:r2=_) (hr3:r3=_) (hr4:r4=_) (hr5:r5=_)
 obtain ⟨ha1,ha2⟩:=ha
 have er1:r1=!(((((a.Side==b.Side&&zw a.Extras b.Extras)&&a.Total==b.Total)&&a.Wickets==b.Wickets)&&((a.Boxes.length:Int) ==(b.Boxes.length:Int)))&&((a.Strips.length:Int) ==(b.Strips.length:Int))):=hr1.trans (Jr _ _ _ _ _ _ _ _ _ _)
 have eS:mi a b =((((a.Side==b.Side&&zw a.Extras b.Extras)&&a.Total==b.Total)&&a.Wickets==b.Wickets)&&eqL bm a.Boxes b.Boxes&&eqL aE a.Strips b.Strips):=rfl
 generalize (((a.Side==b.Side&&zw a.Extras b.Extras)&&a.Total==b.Total)&&a.Wickets==b.Wickets)=H at er1 eS
 clear hr1
 have er0:jf (a.Boxes,(a.Boxes.length:Int),0,a,b,())=if eqL bm a.Boxes b.Boxes then .inl (a,b,()) else .inr (false,()):=rfl
 rw [er0] at hr2 hr3 ⊢
 rw [eS]
 have hl :∀ {x y:Nat},((x:Int) ==(y:Int))=true→x=y:=fun h=>by
  have:=eq_of_beq h
  omega
 have hl' :∀ {x y:Nat},((x:Int) ==(y:Int))=false→x≠y:=fun h e=>by
  subst e
  rw [beq_self_eq_true] at h
  exact Bool.noConfusion h
 refine ⟨fun h1=>?_,fun h1=>?_⟩
 ·have hb :(H&&((a.Boxes.length:Int) ==(b.Boxes.length:Int))&&((a.Strips.length:Int) ==(b.Strips.length:Int)))=false:=by rw [er1,Bool.not_eq_true'] at h1;exact h1
  cases hH:H with
  | false=>rfl
  | true=>
   rw [hH,Bool.true_and] at hb
   rw [Bool.true_and]
   cases hB :(a.Boxes.length:Int) ==(b.Boxes.length:Int) with
   | false=>rw [kz _ _ _ (hl' hB),Bool.false_and]
   | true=>
    rw [hB,Bool.true_and] at hb
    rw [kz aE _ _ (hl' hb),Bool.and_false]
 ·have hb :(H&&((a.Boxes.length:Int) ==(b.Boxes.length:Int))&&((a.Strips.length:Int) ==(b.Strips.length:Int)))=true:=by rw [er1,Bool.not_eq_false'] at h1;exact h1
  rw [Bool.and_eq_true,Bool.and_eq_true] at hb
  obtain ⟨⟨hH,hB⟩,hT⟩:=hb
  rw [hH,Bool.true_and]
  refine ⟨⟨rfl,⟨rfl,hl hB,ha1⟩,Int.le_refl _,by omega⟩,fun h2=>?_,fun h2=>?_⟩
  ·have hE:eqL bm a.Boxes b.Boxes=true:=by
    cases hE:eqL bm a.Boxes b.Boxes with
    | true=>rfl
    | false=>rw [hr2,hE] at h2;exact Bool.noConfusion h2
   have e3:r3 =(a,b,()):=by rw [hr3,hE];rfl
   subst e3
   have er5:jY (a.Strips,r4,0,b,())=eqO (eqL aE a.Strips b.Strips):=rfl
   rw [er5] at hr5 ⊢
   rw [hE,Bool.true_and]
   refine ⟨⟨rfl,⟨hr4,hl hT,ha2⟩,Int.le_refl _,by omega⟩,fun h5=>?_,fun h5=>?_⟩
   ·cases hS:eqL aE a.Strips b.Strips with
    | true=>rfl
    | false=>rw [hr5,hS] at h5;exact Bool.noConfusion h5
   ·cases hS:eqL aE a.Strips b.Strips with
    | false=>rfl
    | true=>rw [hr5,hS] at h5;exact Bool.noConfusion h5
  ·have hE:eqL bm a.Boxes b.Boxes=false:=by
    cases hE:eqL bm a.Boxes b.Boxes with
    | false=>rfl
    | true=>rw [hr2,hE] at h2;exact Bool.noConfusion h2
   rw [hE]
   rfl
def zS:FuncId×Ctr:=(17,ag KE qBb bs wy)
theorem F3:CtrOK Tryz.prog KE 17 (ag KE qBb bs wy):=by
 refine aZ (C:=aA [mC] Tryz.f17) (an (.consU nP rfl .nil) _) mixed (fn:=Tryz.f17) Tryz.func17 (by kernel_rfl) (by kernel_rfl) (by kernel_rfl) (by kernel_rfl) (by kernel_rfl) (by kernel_rfl) (Λ:=fun x=>find [(MG,Nl),(MH,Nn)]) ?_ ?_
 ·rintro ⟨a,b,⟨⟩⟩ hw hn
  exact LoopsOKp.at (by kernel_rfl) (.cons (by kernel_rfl) (OS) (.cons (by kernel_rfl) (OT) .nil))
 ·rintro ⟨a,b,⟨⟩⟩ hw hn
  exact C8 a b ⟨iM (gG (yQ (Kb (gG hw)))),iM (gG (yQ (yQ (Kb (gG hw)))))⟩
end Go.Proofs.YtffdpnmioidloaaGreatDoor
namespace Go.Mir
open Go.RowKit
inductive Rn (γ:Type) where
 | ok (r:γ)
 | no (w:List Nat)
inductive Tri (α:Type) where
 | lf
 | nd (l:Tri α) (v:Option α) (r:Tri α)
def Tri.get {α:Type} (t:Tri α):Nat→Option α:=
 match t with
 | .lf=>fun _=>none
 | .nd l v r=>fun k=>Nat.casesOn (motive:=fun _=>Option α) k v fun k=>Bool.casesOn (motive:=fun _=>Option α) (Nat.beq (Nat.mod k 2) 0) (r.get (Nat.div k 2)) (l.get (Nat.div k 2))
def IntKind.eqb (a b:IntKind):Bool:=decide (a=b)
mutual
def V.eqb:V→V→Bool
 | .any,.any=>true
 | .int k n,.int k' n'=>decide (k=k')&&decide (n=n')
 | .bool a,.bool b=>decide (a=b)
 | .kb a,.kb b=>decide (a=b)
 | .str s,.str t=>decide (s.data.toList=t.data.toList)
 | .nilptr,.nilptr=>true
 | .ptr h o,.ptr h' o'=>Nat.beq h h'&&Nat.beq o o'
 | .nilsl,.nilsl=>true
 | .esl,.esl=>true
 | .gsl h v e o l,.gsl h' v' e' o' l'=>Nat.beq h h'&&Nat.beq v v'&&Nat.beq e e'&&Nat.beq o o'&&Nat.beq l l'
 | .gp h v o,.gp h' v' o'=>Nat.beq h h'&&Nat.beq v v'&&Nat.beq o o'
 | .mpv h,.mpv h'=>Nat.beq h h'
 | .nilfn,.nilfn=>true
 | .nilmap,.nilmap=>true
 | .fn f cs,.fn f' cs'=>Nat.beq f f'&&zo cs cs'
 | .agg cs,.agg cs'=>zo cs cs'
 | .tup cs,.tup cs'=>zo cs cs'
 | _,_=>false
def zo:List V→List V→Bool
 | [],[]=>true
 | x::xs,y::ys=>V.eqb x y&&zo xs ys
 | _,_=>false
end
mutual
theorem V.eqb_eq :∀ (x y:V),V.eqb x y=true→x=y
 | .any,y,h=>by cases y <;> simp_all [V.eqb]
 | .int k n,y,h=>by cases y <;> simp_all [V.eqb]
 | .bool _,y,h=>by cases y <;> simp_all [V.eqb]
 | .kb _,y,h=>by cases y <;> simp_all [V.eqb]
 | .hint _ _,y,h=>by cases y <;> simp [V.eqb] at h
 | .str s,y,h=>by
  cases y <;> simp only [V.eqb,Bool.false_eq_true,decide_eq_true_eq] at h
  rename_i t
  have:s=t:=ByteArray.ext (Array.toList_inj.1 h)
  rw [this]
 | .nilptr,y,h=>by cases y <;> simp_all [V.eqb]
 | .ptr _ _,y,h=>by cases y <;> simp_all [V.eqb]
 | .fp _ _ _ _,y,h=>by cases y <;> simp [V.eqb] at h
 | .rp _ _ _ _,y,h=>by cases y <;> simp [V.eqb] at h
 | .nilsl,y,h=>by cases y <;> simp_all [V.eqb]
 | .esl,y,h=>by cases y <;> simp_all [V.eqb]
 | .osl _ _,y,h=>by cases y <;> simp [V.eqb] at h
 | .fsl _ _,y,h=>by cases y <;> simp [V.eqb] at h
 | .gsl _ _ _ _ _,y,h=>by cases y <;> simp_all [V.eqb]
 | .gp _ _ _,y,h=>by cases y <;> simp_all [V.eqb]
 | .mpv _,y,h=>by cases y <;> simp_all [V.eqb]
 | .av _ _,y,h=>by cases y <;> simp [V.eqb] at h
 | .nilfn,y,h=>by cases y <;> simp_all [V.eqb]
 | .nilmap,y,h=>by cases y <;> simp_all [V.eqb]
 | .fn f cs,y,h=>by
  cases y <;> simp only [V.eqb,Bool.false_eq_true,Bool.and_eq_true,Nat.beq_eq] at h
  rw [h.1,qI _ _ h.2]
 | .agg cs,y,h=>by
  cases y <;> simp only [V.eqb,Bool.false_eq_true] at h
  rw [qI _ _ h]
 | .tup cs,y,h=>by
  cases y <;> simp only [V.eqb,Bool.false_eq_true] at h
  rw [qI _ _ h]
theorem qI :∀ (xs ys:List V),zo xs ys=true→xs=ys
 | [],[],_=>rfl
 | [],_::_,h=>by simp [zo] at h
 | _::_,[],h=>by simp [zo] at h
 | x::xs,y::ys,h=>by
  simp only [zo,Bool.and_eq_true] at h
  rw [V.eqb_eq _ _ h.1,qI _ _ h.2]
end
def FE:List (V×V)→List (V×V)→Bool
 | [],[]=>true
 |(a,b)::xs,(c,d)::ys=>V.eqb a c&&V.eqb b d&&FE xs ys
 | _,_=>false
theorem DH :∀ (xs ys:List (V×V)),FE xs ys=true→xs=ys
 | [],[],_=>rfl
 | [],_::_,h=>by simp [FE] at h
 | _::_,[],h=>by simp [FE] at h
 |(a,b)::xs,(c,d)::ys,h=>by
  simp only [FE,Bool.and_eq_true] at h
  rw [V.eqb_eq _ _ h.1.1,V.eqb_eq _ _ h.1.2,DH _ _ h.2]
end Go.Mir
namespace Go.Mir
open Go.RowKit
variable {P:Program}
def Ob.chk:Ob→Bool
 | .rng n len=>decide (0≤n)&&decide (n <(len:Int))
 | .sub l h len=>decide (0≤l)&&decide (l≤h)&&decide (h≤(len:Int))
 | .mk n c=>decide (0≤n)&&decide (c=n)&&decide (n≤17179869184)
 | .mkc n c=>decide (0≤n)&&decide (n≤c)&&decide (c≤17179869184)
 | .ne0 n=>!decide (n=0)
 | .leN a b=>Nat.ble a b
 | .prop _=>false
theorem Ob.chk_holds :∀ {p:Ob},p.chk=true→p.holds
 | .rng n len,h=>by simpa [Ob.chk,Ob.holds] using h
 | .sub l h len,hh=>by simp only [Ob.chk,Bool.and_eq_true,decide_eq_true_eq] at hh;exact ⟨hh.1.1,hh.1.2,hh.2⟩
 | .mk n c,h=>by simp only [Ob.chk,Bool.and_eq_true,decide_eq_true_eq] at h;exact ⟨h.1.1,h.1.2,h.2⟩
 | .mkc n c,h=>by simp only [Ob.chk,Bool.and_eq_true,decide_eq_true_eq] at h;exact ⟨h.1.1,h.1.2,h.2⟩
 | .ne0 n,h=>by simpa [Ob.chk,Ob.holds] using h
 | .leN a b,h=>Nat.le_of_ble_eq_true h
def Mk (t:Tri V) (i:Nat):V:=Option.casesOn (motive:=fun _=>V) (t.get i) .any fun v=>v
def jy:V→V
 | .bool b=> .kb b
 | v=>v
structure RS where
 tm:Tri V
 hp:Tri Blk
 nx:Nat
abbrev GF:=FuncId→List V→Tri Blk→Nat→Rn (V×Tri Blk×Nat)
def mc (r:Res):Option (List Ob×V×List (Nat×Blk)):=match r with
 | .val ps v dh=>some (ps,v,dh)
 | _=>none
abbrev R1:=Option (List Ob×V×List (Nat×Blk))
def CX (tb:Tbl) (H:aw) (ev:Operand→V) (t:TypeId) (a x:Operand):R1:=match tb t with
 | some td=>match di td H (ev a) (ev x) with
  | .skip ps dh=>some (ps,.tup [],dh)
  | _=>none
 | none=>none
def wq (ev:Operand→V) (x:Operand):R1:=some ([],ev x,[])
def Mo (ev:Operand→V) (c a b:Operand):R1:=mc (pn (ev c) (ev a) (ev b))
def CR (tb:Tbl) (m:Nat) (t:TypeId):R1:=match tb t with|some td=>some ([],.ptr m 0,[(m,.cells td.zero)])|none=>none
def Pw (m:Nat) (ev:Operand→V) (x:Operand):R1:=match cellsOf (ev x) with|some cs=>some ([],.ptr m 0,[(m,.cells cs)])|none=>none
def CS (tb:Tbl) (ev:Operand→V) (t:TypeId) (parts:Array (Nat×Operand)):R1:=match tb t with|some td=>mc (mu tb td (parts.toList.map fun p=>(p.1,ev p.2)))|none=>none
def mb (tb:Tbl) (m:Nat) (H:aw) (ev:Operand→V) (t:TypeId) (n:Nat) (parts:Array (Nat×Operand)):R1:=match tb t with|some td=>mc (dq tb td H m n (parts.toList.map fun p=>(p.1,ev p.2)))|none=>none
def Jo (tb:Tbl) (H:aw) (ev:Operand→V) (t:TypeId) (a:Operand):R1:=match tb t with|some td=>mc (fm td H (ev a))|none=>none
def Rw (ev:Operand→V) (x:Operand):R1:=mc (zu (ev x))
def Pv (tb:Tbl) (ev:Operand→V) (op:BinOp) (t:TypeId) (x y:Operand):R1:=match tb t with|some td=>mc (fD td op (ev x) (ev y))|none=>none
def rUn (ev:Operand→V) (op:UnOp) (x:Operand):R1:=mc (Hn op (ev x))
def Jl (tb:Tbl) (m:Nat) (ev:Operand→V) (s d:TypeId) (x:Operand):R1:=match tb s,tb d with|some ts,some td=>mc (qK tb ts td m (ev x))|_,_=>none
def bZ:List V→Bool
 | []=>true
 | .ptr _ _::_=>true
 | _=>false
theorem CK {asz caps:List V} (h:bZ caps=true):po asz caps=some (asz++caps):=by
 cases caps with
 | nil=>simp [po]
 | cons c cs=>cases c <;> simp only [bZ,Bool.false_eq_true] at h;rfl
theorem CL {f:FuncId} {caps:List V} (h:bZ caps=true):pj f [] caps = .val [] (.fn f caps) []:=by
 cases caps with
 | nil=>rfl
 | cons c cs=>cases c <;> simp only [bZ,Bool.false_eq_true] at h;rfl
theorem Jg {E:Env} {f:FuncId} {caps:List V} {l:Array Value} (h:bZ caps=true) (hl:ab E caps l.toList):fnV f l = .func (.func f) #[] l:=by
 obtain ⟨l⟩:=l
 cases caps with
 | nil=>cases l with
  | nil=>rfl
  | cons=>simp [ab] at hl
 | cons c cs=>
  cases c <;> simp only [bZ,Bool.false_eq_true] at h
  cases l with
  | nil=>simp [ab] at hl
  | cons v vs=>
   simp only [ab,aa] at hl
   obtain ⟨⟨_,⟨a,rfl⟩,_⟩,_⟩:=hl
   rfl
def Jm (ev:Operand→V) (fn:Fn) (first caps:Array Operand):R1:=match fn with
 | .func f=>mc (pj f (first.toList.map ev) (caps.toList.map ev))
 | _=>none
def Jp (tb:Tbl) (m:Nat) (H:aw) (ev:Operand→V) (t:TypeId) (l c:Operand):R1:=match tb t with|some td=>mc (gJ tb td H m (ev l) (ev c))|none=>none
def CW (tb:Tbl) (H:aw) (ev:Operand→V) (t:TypeId) (x:Operand) (lo hi mx:Option Operand):R1:=match tb t with|some td=>mc (fo tb td H (ev x) (lo.map ev) (hi.map ev) (mx.map ev))|none=>none
def CU (tb:Tbl) (ev:Operand→V) (t:TypeId) (x:Operand) (f:Nat):R1:=match tb t with|some td=>mc (jH tb td (ev x) f)|none=>none
def yj (tb:Tbl) (ev:Operand→V) (t:TypeId) (x:Operand) (f:Nat):R1:=match tb t with|some td=>mc (gZ tb td (ev x) f)|none=>none
def CV (tb:Tbl) (H:aw) (ev:Operand→V) (t:TypeId) (x i:Operand):R1:=match tb t with|some td=>mc (dI tb td H (ev x) (ev i))|none=>none
def Jn (tb:Tbl) (ev:Operand→V) (t:TypeId) (x i:Operand):R1:=match tb t with|some td=>mc (lL tb td (ev x) (ev i))|none=>none
def A5 (ev:Operand→V) (t:Operand) (i:Nat):R1:=mc (mw (ev t) i)
theorem Gr {td:TD} {H:aw} {a x:V} {ps:List Ob} {dh:List (Nat×Blk)} (h:di td H a x = .skip ps dh):fq td H a x = .skip ps dh:=by
 unfold fq
 split
 ·rw [h]
 ·exact h
def rB (tb:Tbl) (N m:Nat) (H:aw) (ev:Operand→V) (op:Op):R1:=match op with
 | .store t a x=>CX tb H ev t a x
 | .move x=>wq ev x
 | .assign x=>wq ev x
 | .pick c a b=>Mo ev c a b
 | .alloc t=>CR tb m t
 | .box _ x=>Pw m ev x
 | .build t parts=>CS tb ev t parts
 | .buildSlice t n parts=>mb tb m H ev t n parts
 | .load t a=>Jo tb H ev t a
 | .nilCheck x=>Rw ev x
 | .binOp op t x y _=>Pv tb ev op t x y
 | .unOp op _ x=>rUn ev op x
 | .convert s d x=>Jl tb m ev s d x
 | .makeFunc fn first caps=>Jm ev fn first caps
 | .makeSlice t l c=>Jp tb m H ev t l c
 | .slice t x lo hi mx=>CW tb H ev t x lo hi mx
 | .fieldAddr t x f=>CU tb ev t x f
 | .field t x f=>yj tb ev t x f
 | .indexAddr t x i=>CV tb H ev t x i
 | .index t x i=>Jn tb ev t x i
 | .extract t i=>A5 ev t i
 | op=>aB ⟨tb,fun _=>none,1,N⟩ m H ev op
theorem pg (tb:Tbl) (N m:Nat) (H:aw) (ev:Operand→V) (op:Op) {q:List Ob×V×List (Nat×Blk)} (h:rB tb N m H ev op=some q):aB ⟨tb,fun _=>none,1,N⟩ m H ev op=some q:=by
 have key :∀ {r:Res},mc r=some q→(match r with | .val ps v dh=>some (ps,v,dh)|_=>none:R1)=some q:=fun {r} h=>by cases r <;> first|exact h|cases h
 cases op <;> simp only [rB] at h <;> simp only [aB,b8,bO]
 case store t a x=>simp only [CX] at h;cases ht:tb t <;> rw [ht] at h <;> simp only [reduceCtorEq] at h ⊢;cases hs:di _ H (ev a) (ev x) <;> rw [hs] at h <;> simp only [reduceCtorEq] at h ⊢;rw [Gr hs];exact h
 case move=>simpa [wq] using h
 case assign=>simpa [wq] using h
 case pick=>exact key h
 case alloc t=>simp only [CR] at h;cases ht:tb t <;> rw [ht] at h <;> simp only [reduceCtorEq] at h ⊢;exact h
 case box t x=>simp only [Pw] at h;cases ht:cellsOf (ev x) <;> rw [ht] at h <;> simp only [reduceCtorEq] at h ⊢;exact h
 case build t parts=>simp only [CS] at h;cases ht:tb t <;> rw [ht] at h <;> simp only [reduceCtorEq] at h ⊢;exact key h
 case buildSlice t n parts=>simp only [mb] at h;cases ht:tb t <;> rw [ht] at h <;> simp only [reduceCtorEq] at h ⊢;exact key h
 case load t a=>simp only [Jo] at h;cases ht:tb t <;> rw [ht] at h <;> simp only [reduceCtorEq] at h ⊢;exact key h
 case nilCheck=>exact key h
 case binOp o t x y t2=>simp only [Pv] at h;cases ht:tb t <;> rw [ht] at h <;> simp only [reduceCtorEq] at h ⊢;exact key h
 case unOp=>exact key h
 case convert s d x=>
  simp only [Jl] at h
  cases ht:tb s with
  | none=>rw [ht] at h;cases h
  | some ts=>
   rw [ht] at h
   cases ht2:tb d with
   | none=>rw [ht2] at h;cases h
   | some td=>rw [ht2] at h;exact key h
 case makeFunc fn first caps=>
  cases fn <;> simp only [Jm,reduceCtorEq] at h
  exact key h
 case makeSlice t l c=>simp only [Jp] at h;cases ht:tb t <;> rw [ht] at h <;> simp only [reduceCtorEq] at h ⊢;exact key h
 case slice t x lo hi mx=>simp only [CW] at h;cases ht:tb t <;> rw [ht] at h <;> simp only [reduceCtorEq] at h ⊢;exact key h
 case fieldAddr t x f=>simp only [CU] at h;cases ht:tb t <;> rw [ht] at h <;> simp only [reduceCtorEq] at h ⊢;exact key h
 case field t x f=>simp only [yj] at h;cases ht:tb t <;> rw [ht] at h <;> simp only [reduceCtorEq] at h ⊢;exact key h
 case indexAddr t x i=>simp only [CV] at h;cases ht:tb t <;> rw [ht] at h <;> simp only [reduceCtorEq] at h ⊢;exact key h
 case index t x i=>simp only [Jn] at h;cases ht:tb t <;> rw [ht] at h <;> simp only [reduceCtorEq] at h ⊢;exact key h
 case extract=>exact key h
 all_goals (simp only [aB,b8,bO] at h;exact h)
inductive Act1 where
 | plain (r:R1)
 | call (g:FuncId) (args:List V)
def G6 (tb:Tbl) (N m:Nat) (H:aw) (ev:Operand→V) (c:Call):Act1:=match c.callee with
 | .value f=>match ev f with
  | .fn g caps=>bif bZ caps then .call g (c.args.toList.map ev++caps) else .plain none
  | _=> .plain none
 | _=> .plain (aB ⟨tb,fun _=>none,1,N⟩ m H ev (.call c))
def evA (tb:Tbl) (N m:Nat) (H:aw) (ev:Operand→V) (op:Op):Act1:=match op with
 | .call c=>G6 tb N m H ev c
 | .store t a x=> .plain (CX tb H ev t a x)
 | .move x=> .plain (wq ev x)
 | .assign x=> .plain (wq ev x)
 | .pick c a b=> .plain (Mo ev c a b)
 | .alloc t=> .plain (CR tb m t)
 | .box _ x=> .plain (Pw m ev x)
 | .build t parts=> .plain (CS tb ev t parts)
 | .buildSlice t n parts=> .plain (mb tb m H ev t n parts)
 | .load t a=> .plain (Jo tb H ev t a)
 | .nilCheck x=> .plain (Rw ev x)
 | .binOp op t x y _=> .plain (Pv tb ev op t x y)
 | .unOp op _ x=> .plain (rUn ev op x)
 | .convert s d x=> .plain (Jl tb m ev s d x)
 | .makeFunc fn first caps=> .plain (Jm ev fn first caps)
 | .makeSlice t l c=> .plain (Jp tb m H ev t l c)
 | .slice t x lo hi mx=> .plain (CW tb H ev t x lo hi mx)
 | .fieldAddr t x f=> .plain (CU tb ev t x f)
 | .field t x f=> .plain (yj tb ev t x f)
 | .indexAddr t x i=> .plain (CV tb H ev t x i)
 | .index t x i=> .plain (Jn tb ev t x i)
 | .extract t i=> .plain (A5 ev t i)
 | op=> .plain (aB ⟨tb,fun _=>none,1,N⟩ m H ev op)
theorem FF (tb:Tbl) (N m:Nat) (H:aw) (ev:Operand→V) (op:Op) {q:List Ob×V×List (Nat×Blk)} (h:evA tb N m H ev op = .plain (some q)):aB ⟨tb,fun _=>none,1,N⟩ m H ev op=some q:=by
 cases op
 case call c=>
  simp only [evA,G6] at h
  split at h
  ·split at h
   ·rename_i caps _
    cases hb:bZ caps with
    | true=>rw [hb] at h;cases h
    | false=>rw [hb] at h;cases h
   ·cases h
  ·exact Act1.plain.inj h
 all_goals (exact pg tb N m H ev _ (Act1.plain.inj h))
theorem Hm (tb:Tbl) (N m:Nat) (H:aw) (ev:Operand→V) (op:Op) {g:FuncId} {args:List V} (h:evA tb N m H ev op = .call g args) :∃ c f caps,op = .call c∧c.callee = .value f∧ev f = .fn g caps∧args=c.args.toList.map ev++caps∧bZ caps=true:=by
 cases op
 case call c=>
  simp only [evA,G6] at h
  split at h
  ·rename_i f hf
   split at h
   ·rename_i g' caps he
    cases hb:bZ caps with
    | false=>rw [hb] at h;cases h
    | true=>
     rw [hb] at h
     cases h
     exact ⟨c,f,caps,rfl,hf,he,rfl,hb⟩
   ·cases h
  ·cases h
 all_goals (cases h)
def Ml (ps:List Ob):Bool:=List.casesOn (motive:=fun _=>Bool) ps true fun _ _=>ps.all Ob.chk
def Hh (N:Nat) (ops:List Oper):Bool:=ops.all fun o=>dstIn N o.dst
def mf (tb:Tbl) (tm:Tri V) (hp:Tri Blk):ResultVar→Option V
 | .tmp t=>some (Mk tm t)
 | .cell a t=>match tb t with
  | some td=>match kC td hp.get (Mk tm a) with
   | .val _ v _=>some v
   | _=>none
  | none=>none
end Go.Mir
namespace Go.Mir
open Go.RowKit
variable {P:Program}
inductive DoesV (C:Cfg) (alt:Option (Nat×(Blk→Bool))) (all:List Oper) (tm:List (Nat×V)) (H:aw) (m:Nat) (o:Oper):Rec→Prop
 | old {r:Rec}:Does C true all tm H m o r→DoesV C alt all tm H m o r
 | dir {ps:List Ob} {v v':V} {dh:List (Nat×Blk)} {R:List Nat}:dstIn C.N o.dst=true→fv all tm o=some true→aB C m H (ba (aj all o) tm) o.op=some (ps,v,dh)→
   (∀ H2:aw,(∀ h∈R,H2 h=H h)→(∀ h0 okB,alt=some (h0,okB)→H2 h0=H h0∨∃ b,H2 h0=some b∧okB b=true)→aB C m H2 (ba (aj all o) tm) o.op=aB C m H (ba (aj all o) tm) o.op)→(∀ p∈ps,p.holds)→
   (v'=v∨∃ b,v = .bool b∧v' = .kb b)→DoesV C alt all tm H m o ⟨o.dst,v',dh,R,aj all o⟩
theorem DoesV.dstIn {C:Cfg} {alt:Option (Nat×(Blk→Bool))} {all:List Oper} {tm:List (Nat×V)} {H:aw} {m:Nat} {o:Oper} {r:Rec} (h:DoesV C alt all tm H m o r):dstIn C.N o.dst=true∧r.dst=o.dst∧r.rs=aj all o:=by
 cases h with
 | old h=>exact h.dstIn
 | dir h _ _ _ _ _=>exact ⟨h,rfl,rfl⟩
inductive RunV (Cf:Nat→Cfg) (lo:Nat→Nat) (al:Nat→Option (Nat×(Blk→Bool))) (all:List Oper) (st:St):Nat→List Oper→Dl→List Rec→Dl→List Rec→Prop
 | nil {i:Nat} {d:Dl} {recs:List Rec}:RunV Cf lo al all st i [] d recs d recs
 | cons {i:Nat} {o:Oper} {rest:List Oper} {d:Dl} {recs:List Rec} {r:Rec} {df:Dl} {rf:List Rec}:DoesV (Cf i) (al i) all (d.tm++st.tm) (ak st.H d.hp) (lo i) o r→
   RunV Cf lo al all st (i+1) rest ⟨cg r.dst r.v++d.tm,r.dh++d.hp⟩ (recs++[r]) df rf→RunV Cf lo al all st i (o::rest) d recs df rf
theorem wx {Cf:Nat→Cfg} {lo:Nat→Nat} {al:Nat→Option (Nat×(Blk→Bool))} {all:List Oper} {st:St} :∀ (rest:List Oper) (i:Nat) (d:Dl) (recs:List Rec) (df:Dl) (rf:List Rec),RunV Cf lo al all st i rest d recs df rf→recs.length=i→
  find (d.tm++st.tm) =(recs.map eE).foldl dC (find st.tm)→ak st.H d.hp =(recs.map Rec.dh).foldl dC st.H→
  (∃ more,rf=recs++more∧more.length=rest.length)∧find (df.tm++st.tm) =(rf.map eE).foldl dC (find st.tm)∧ak st.H df.hp =(rf.map Rec.dh).foldl dC st.H∧
  ∀ j o,rest[j]?=some o→∃ r tm H,rf[i+j]?=some r∧DoesV (Cf (i+j)) (al (i+j)) all tm H (lo (i+j)) o r∧find tm =((rf.take (i+j)).map eE).foldl dC (find st.tm)∧H =((rf.take (i+j)).map Rec.dh).foldl dC st.H
 | [],i,d,recs,df,rf,hr,hl,h1,h2=>by
  cases hr
  exact ⟨⟨[],by simp,rfl⟩,h1,h2,fun j o h=>by simp at h⟩
 | o::rest,i,d,recs,df,rf,hr,hl,h1,h2=>by
  cases hr with
  | @cons _ _ _ _ _ r _ _ hdo hrun=>
   obtain ⟨⟨more,e1,e2⟩,g1,g2,g3⟩:=wx rest (i+1) _ _ _ _ hrun (by simp [hl])
    (by rw [List.append_assoc,u5,h1];simp [eE]) (by rw [bE,h2];simp [mB])
   refine ⟨⟨r::more,by rw [e1];simp,by simp [e2]⟩,g1,g2,fun j o' hj=>?_⟩
   cases j with
   | zero=>
    simp only [List.getElem?_cons_zero,Option.some.injEq] at hj
    subst hj
    have et:rf.take i=recs:=by rw [e1,List.append_assoc,List.take_append_of_le_length (by omega),List.take_of_length_le (by omega)]
    refine ⟨r,_,_,?_,hdo,?_,?_⟩
    ·rw [e1,Nat.add_zero,List.append_assoc,List.getElem?_append_right (by omega)]
     simp [hl]
    ·rw [Nat.add_zero,et];exact h1
    ·rw [Nat.add_zero,et];exact h2
   | succ j=>
    obtain ⟨r',tm,H,k1,k2,k3,k4⟩:=g3 j o' (by simpa using hj)
    rw [show i+1+j=i +(j+1) by omega] at k1 k2 k3 k4
    exact ⟨r',tm,H,k1,k2,k3,k4⟩
structure InvV (Cf:Nat→Cfg) (lo:Nat→Nat) (N:Nat) (B:Base) (E0:Env) (st:St) (rf:List Rec) (L:Nat→Bool) (a:Act) (w:World):Prop where
 ex :∃ E,HRel B E∧E.w=w∧Ext E0 E∧E.H=bJ L st.H 0 (rf.map Rec.dh)∧(∀ n,E.U n→E0.U n∨∃ i,i<rf.length∧L i=true∧lo i≤n∧n<lo i +(Cf i).K)∧dF E (bJ L (find st.tm) 0 (rf.map eE)) a
 size:a.tmps.size=N
 defers:a.defers=[]
theorem Bl {L L':Nat→Bool} {k:Nat} {okB:Blk→Bool} :∀ (us:List (List (Nat×Blk))) (i:Nat) (f f':Nat→Option Blk),(f k=f' k∨∃ b,f k=some b∧okB b=true)→
  (∀ j u,us[j]?=some u→find u k≠none→L (i+j)=L' (i+j)∨(L' (i+j)=false∧∀ b,find u k=some b→okB b=true))→bJ L f i us k=bJ L' f' i us k∨∃ b,bJ L f i us k=some b∧okB b=true
 | [],_,_,_,h,_=>h
 | u::us,i,f,f',h,hu=>by
  unfold bJ
  refine Bl us (i+1) _ _ ?_ (fun j u' hj hf=>by
   have:=hu (j+1) u' (by simpa using hj) hf
   rwa [show i +(j+1)=i+1+j by omega] at this)
  cases hf:find u k with
  | none=>
   have e1 :(if L i=true then dC f u else f) k=f k:=by split <;> simp [gU hf]
   have e2 :(if L' i=true then dC f' u else f') k=f' k:=by split <;> simp [gU hf]
   rw [e1,e2]
   exact h
  | some v=>
   rcases hu 0 u (by simp) (by rw [hf];simp) with h1 |⟨h1,h2⟩
   ·simp only [Nat.add_zero] at h1
    rw [h1]
    split
    ·left;rw [fK hf,fK hf]
    ·exact h
   ·simp only [Nat.add_zero] at h1
    rw [h1]
    simp only [Bool.false_eq_true,if_false]
    split
    ·right;exact ⟨v,fK hf,h2 v hf⟩
    ·exact h
theorem FQ {Cf:Nat→Cfg} {lo:Nat→Nat} {al:Nat→Option (Nat×(Blk→Bool))} {N:Nat} (hC :∀ i,CfgOK P (Cf i)) (hN :∀ i,(Cf i).N=N) {B:Base} {E0:Env} {all:List Oper} {st:St} {rf:List Rec} (hfr0 :∀ i,i<rf.length→∀ n,lo i≤n→n<lo i +(Cf i).K→¬ E0.U n) (hlo :∀ i j,i<j→j<rf.length→lo i +(Cf i).K≤lo j) {L L':Nat→Bool} {i:Nat} {o:Oper} {r:Rec} (ho:all[i]?=some o) (hr:rf[i]?=some r) (hLi:L i=false) (hL' :∀ j,L' j=if j=i then true else L j)
  {tm:List (Nat×V)} {H:aw} (hdo:DoesV (Cf i) (al i) all tm H (lo i) o r) (htm:find tm=bJ (fun j=>Nat.blt j i) (find st.tm) 0 (rf.map eE)) (hH:H=bJ (fun j=>Nat.blt j i) st.H 0 (rf.map Rec.dh))
  (hcomm :∀ j s,rf[j]?=some s→(j<i∧L j=false)∨(i<j∧L j=true)→Comm r s) (halt :∀ h0 okB,al i=some (h0,okB)→∀ j s b,rf[j]?=some s→find s.dh h0=some b→(j<i→L j=true)∧(i<j→L j=true→okB b=true)) {Q:Exit→Act→World→Prop} {a:Act} {w:World} (hI:InvV Cf lo N B E0 st rf L a w) {K:Act→World→Prop} (hK :∀ a w,InvV Cf lo N B E0 st rf L' a w→K a w) :
  wpOp P all.toArray Q i K a w:=by
 obtain ⟨⟨E,hE,rfl,hX,hEH,hU,hT⟩,hsz,hdf⟩:=hI
 obtain ⟨hd,he,hrs⟩:=hdo.dstIn
 have hiL:i<rf.length:=(List.getElem?_eq_some_iff.1 hr).1
 have hLsel :∀ {α:Type} (us:List (List (Nat×α))) (f:Nat→Option α) (k:Nat) (g:Rec→List (Nat×α)),us=rf.map g→(∀ j s,rf[j]?=some s→find (g s) k≠none→j≠i→Comm r s→False)→bJ L f 0 us k=bJ (fun j=>Nat.blt j i) f 0 us k:=by
  intro α us f k g hus hno
  refine fQ us 0 f f rfl (fun j u hj hu=>?_)
  rw [Nat.zero_add]
  subst hus
  rw [List.getElem?_map] at hj
  cases hs:rf[j]? with
  | none=>rw [hs] at hj;simp at hj
  | some s=>
   rw [hs] at hj
   simp only [Option.map_some,Option.some.injEq] at hj
   subst hj
   by_cases hji:j=i
   ·subst hji
    rw [hLi]
    cases hb:Nat.blt j j with
    | false=>rfl
    | true=>rw [Nat.blt_eq] at hb;omega
   ·rcases Nat.lt_or_gt_of_ne hji with hlt|hgt
    ·have hb:Nat.blt j i=true:=by rw [Nat.blt_eq];exact hlt
     rw [hb]
     cases hLj:L j with
     | true=>rfl
     | false=>exact (hno j s hs hu hji (hcomm j s hs (.inl ⟨hlt,hLj⟩))).elim
    ·have hb:Nat.blt j i=false:=by cases hb:Nat.blt j i with|false=>rfl|true=>rw [Nat.blt_eq] at hb;omega
     rw [hb]
     cases hLj:L j with
     | false=>rfl
     | true=>exact (hno j s hs hu hji (hcomm j s hs (.inr ⟨hgt,hLj⟩))).elim
 have hslot :∀ s∈aj all o,bJ L (find st.tm) 0 (rf.map eE) s=find tm s:=fun s hs=>by
  rw [htm]
  refine hLsel _ _ s eE rfl (fun j s' hs' hne hji hc=>?_)
  exact hc.sd s (kp hne) (by rw [hrs];exact hs)
 have hlook :∀ s∈aj all o,aa E (cC tm s) (a.tmps.getD s undef):=fun s hs=>by
  unfold cC
  cases hf:find tm s with
  | none=>simp [aa]
  | some v=>exact hT s v (by rw [hslot s hs];exact hf)
 have hL0 :∀ {α:Type} (us:List (List (Nat×α))) (f:Nat→Option α) (g:Rec→List (Nat×α)),us=rf.map g→(∀ j s,i<j→rf[j]?=some s→Comm r s→∀ k,find (g r) k≠none→find (g s) k=none)→bJ L' f 0 us=dC (bJ L f 0 us) (g r):=by
  intro α us f g hus hno
  subst hus
  refine Bj (rf.map g) f i (g r) (by rw [List.getElem?_map,hr];rfl) hL' (fun j u hj hu hLj k hk=>?_)
  rw [List.getElem?_map] at hu
  cases hs:rf[j]? with
  | none=>rw [hs] at hu;simp at hu
  | some s=>
   rw [hs] at hu
   simp only [Option.map_some,Option.some.injEq] at hu
   subst hu
   exact hno j s hj hs (hcomm j s hs (.inr ⟨hj,hLj⟩)) k hk
 have none_of :∀ {α:Type} {l:List (Nat×α)} {k:Nat},(k∈l.map (·.1)→False)→find l k=none:=fun {α l k} h=>by
  cases hf:find l k with
  | none=>rfl
  | some v=>exact (h (eB (by rw [hf];simp))).elim
 have hT':bJ L' (find st.tm) 0 (rf.map eE)=dC (bJ L (find st.tm) 0 (rf.map eE)) (eE r):=hL0 _ _ eE rfl (fun j s _ _ hc k hk=>by
  cases hf:find (eE s) k with
  | none=>rfl
  | some v=>exact (hc.d k (kp hk) (kp (by rw [hf];simp))).elim)
 have hH':bJ L' st.H 0 (rf.map Rec.dh)=dC (bJ L st.H 0 (rf.map Rec.dh)) r.dh:=hL0 _ _ Rec.dh rfl (fun j s _ _ hc k hk=>none_of fun hm=>hc.k k (eB hk) hm)
 have after :∀ (E':Env) (v':Value),GoodK B E (lo i) (Cf i).K r.dh E'.w E'→aa E' r.v v'→InvV Cf lo N B E0 st rf L' (a.put o.dst v') E'.w:=fun E' v' G hv=>by
  refine ⟨⟨E',G.rel,rfl,hX.trans G.ext,by rw [G.h,hH',hEH,mB],fun n hn=>?_,?_⟩,by rw [ma];exact hsz,by rw [iB];exact hdf⟩
  ·rcases G.u n hn with h|h
   ·rcases hU n h with h1 |⟨j,h1,h2,h3⟩
    ·exact .inl h1
    ·refine .inr ⟨j,h1,?_,h3⟩
     rw [hL']
     split
     ·rfl
     ·exact h2
   ·exact .inr ⟨i,hiL,by rw [hL',if_pos rfl],h.1,h.2⟩
  ·rw [hT']
   exact yh G.ext hT hsz (by rw [←hN i];exact hd) (v:=r.v) hv (fun s u hu=>by
    unfold dC eE at hu
    rw [he] at hu
    cases hf:find (cg o.dst r.v) s with
    | some x=>rw [hf] at hu;exact .inl hu
    | none=>rw [hf] at hu;exact .inr ⟨rfl,hu⟩)
 unfold wpOp
 simp only [List.getElem?_toArray,ho]
 have hfresh :∀ n,lo i≤n→n<lo i +(Cf i).K→¬ E.U n:=fun n h1 h2 hu=>by
  rcases hU n hu with h3 |⟨j,h3,h4,h5,h6⟩
  ·exact hfr0 i hiL n h1 h2 h3
  ·have hji:j≠i:=fun e=>by subst e;rw [hLi] at h4;cases h4
   rcases Nat.lt_or_gt_of_ne hji with hlt|hgt
   ·have:=hlo j i hlt hiL;omega
   ·have:=hlo i j hgt h3;omega
 cases hdo with
 | @dir ps v v' dh R _ hg hev hcg hps hv=>
  rw [cb hlook hg]
  simp only [if_true]
  left
  have hHR :∀ h∈R,E.H h=H h:=fun h hh=>by
   rw [hEH,hH]
   refine hLsel _ _ h Rec.dh rfl (fun j s hs hne hji hc=>?_)
   exact hc.sk h (eB hne) hh
  have hev2:=hcg E.H hHR (fun h0 okB hal=>by
   have hal:=halt h0 okB hal
   rw [hEH,hH]
   refine Bl (rf.map Rec.dh) 0 st.H st.H (.inl rfl) (fun j u hj hu=>?_)
   rw [Nat.zero_add]
   rw [List.getElem?_map] at hj
   cases hs:rf[j]? with
   | none=>rw [hs] at hj;simp at hj
   | some s=>
    rw [hs] at hj
    simp only [Option.map_some,Option.some.injEq] at hj
    subst hj
    rcases Nat.lt_trichotomy j i with hlt|heq|hgt
    ·left
     obtain ⟨b,hb⟩ :∃ b,find s.dh h0=some b:=by
      cases hf:find s.dh h0 with
      | none=>exact absurd hf hu
      | some b=>exact ⟨b,rfl⟩
     rw [(hal j s b hs hb).1 hlt]
     exact (by rw [Nat.blt_eq];exact hlt:Nat.blt j i=true).symm
    ·left
     subst heq
     rw [hLi]
     cases hb:Nat.blt j j with
     | false=>rfl
     | true=>rw [Nat.blt_eq] at hb;omega
    ·have hbf:Nat.blt j i=false:=by cases hb:Nat.blt j i with|false=>rfl|true=>rw [Nat.blt_eq] at hb;omega
     cases hLj:L j with
     | false=>exact .inl hbf.symm
     | true=>exact .inr ⟨hbf,fun b hb=>(hal j s b hs hb).2 hgt hLj⟩)
  rw [hev] at hev2
  have hevm :∀ x,aa E (ba (aj all o) tm x) (a.eval x):=fun x=>by
   cases x with
   | tmp t=>
    simp only [ba]
    cases hm:memN (aj all o) t with
    | false=>simp [aa]
    | true=>exact hlook t (memN_iff.1 hm)
   | const v=>exact gg v
   | func f=>simp only [ba,aa,Act.eval];exact ⟨#[],rfl,by simp [ab]⟩
   | _=>simp [ba,aa]
  exact dH hE (hC i).tb (hC i).K (hC i).Γ hfresh hevm hev2 hps fun v'' E' G hv'=>by
   have hw:E'.w=E'.w:=rfl
   exact hK _ _ (after E' _ G (GB hv hv'))
 | old hdo=>
 cases hdo with
 | skip _ hg=>
  rw [cb hlook hg]
  simp only [Bool.false_eq_true,if_false]
  exact hK _ _ (after E undef ⟨hE,Ext.refl E,rfl,rfl,fun n h=> .inl h⟩ (by simp [aa,undef,ab]))
 | @dir ps v v' dh _ _ hg hdr hev hps hv=>
  rw [cb hlook hg]
  simp only [if_true]
  left
  have hev2:=uZ (C:=Cf i) (m:=lo i) (H1:=E.H) (H2:=H) hdr fun k hk=>by
   rw [hEH,hH]
   refine hLsel _ _ k Rec.dh rfl (fun j s hs hne hji hc=>?_)
   exact hc.sk k (eB hne) hk
  rw [hev] at hev2
  have hevm :∀ x,aa E (ba (aj all o) tm x) (a.eval x):=fun x=>by
   cases x with
   | tmp t=>
    simp only [ba]
    cases hm:memN (aj all o) t with
    | false=>simp [aa]
    | true=>exact hlook t (memN_iff.1 hm)
   | const v=>exact gg v
   | func f=>simp only [ba,aa,Act.eval];exact ⟨#[],rfl,by simp [ab]⟩
   | _=>simp [ba,aa]
  exact dH hE (hC i).tb (hC i).K (hC i).Γ hfresh hevm hev2 hps fun v'' E' G hv'=>hK _ _ (after E' _ G (GB hv hv'))
 | @run ps v v' dh R _ hg hst hps hv=>
  rw [cb hlook hg]
  simp only [if_true]
  left
  simp only [mj] at hst
  split at hst
  case h_2=>cases hst
  rename_i ps' v2 dh' hev
  cases hfr:gK H (ng H 8 (o.op.operands.toList.flatMap fun x=>(ba (aj all o) tm x).hs) []) (lo i) (Cf i).K v2 dh' with
  | false=>rw [hfr] at hst;cases hst
  | true=>
   rw [hfr] at hst
   simp only [cond_true,Option.some.injEq,Prod.mk.injEq] at hst
   obtain ⟨rfl,rfl,rfl,hR⟩:=hst
   rw [hR] at hfr hev
   have hHR :∀ h∈R,E.H h=H h:=fun h hh=>by
    rw [hEH,hH]
    refine hLsel _ _ h Rec.dh rfl (fun j s hs hne hji hc=>?_)
    exact hc.sk h (eB hne) hh
   have hrest:restr H R=restr E.H R:=by
    funext h
    unfold restr
    cases hm:memN R h with
    | false=>rfl
    | true=>simp only [cond_true];exact (hHR h (memN_iff.1 hm)).symm
   simp only [gK,Bool.and_eq_true] at hfr
   obtain ⟨⟨f1,f2⟩,f3⟩:=hfr
   have fR :∀ h∈R,∃ b,H h=some b∧mU R (lo i) (Cf i).K b.hs=true:=fun h hh=>by
    have:=List.all_eq_true.1 f1 h hh
    split at this
    ·rename_i b hb;exact ⟨b,hb,this⟩
    ·cases this
   have hfresh :∀ n,lo i≤n→n<lo i +(Cf i).K→¬ E.U n:=fun n h1 h2 hu=>by
    rcases hU n hu with h3 |⟨j,h3,h4,h5,h6⟩
    ·exact hfr0 i hiL n h1 h2 h3
    ·have hji:j≠i:=fun e=>by subst e;rw [hLi] at h4;cases h4
     rcases Nat.lt_or_gt_of_ne hji with hlt|hgt
     ·have:=hlo j i hlt hiL;omega
     ·have:=hlo i j hgt h3;omega
   have hEs:=hE.restr R
   have Xs:=Ext.restr E R
   rw [hrest] at hev
   have hevm :∀ x,aa { E with H:=Mir.restr E.H R } (ba (aj all o) tm x) (a.eval x):=fun x=>by
    cases x with
    | tmp t=>
     simp only [ba]
     cases hm:memN (aj all o) t with
     | false=>simp [aa]
     | true=>exact aK Xs _ _ (hlook t (memN_iff.1 hm))
    | const v=>exact gg v
    | func f=>simp only [ba,aa,Act.eval];exact ⟨#[],rfl,by simp [ab]⟩
    | _=>simp [ba,aa]
   exact dH (E:={ E with H:=Mir.restr E.H R }) hEs (hC i).tb (hC i).K (hC i).Γ hfresh hevm hev hps fun v'' Es G hv'=>by
    obtain ⟨E',G',tr⟩:=Ma hE hfresh G (fun h hh=>by obtain ⟨b,hb,_⟩:=fR h hh;exact ⟨b,by rw [hHR h hh];exact hb⟩)
     (fun h hh k hk x hx=>by
      obtain ⟨b,hb,hb2⟩:=fR h hh
      rw [hHR h hh,hb] at hk
      cases hk
      exact eZ hb2 x hx)
     (fun h k hk=>by
      have hq:=ae hk
      have:=List.all_eq_true.1 f2 _ hq
      simp only [Bool.and_eq_true] at this
      exact ⟨eZ this.1 h (by simp),eZ this.2⟩)
    have hw:E'.w=Es.w:=G'.w
    have hv2:aa E' v2 v'':=tr _ _ (eZ f3) hv'
    have:=hK _ _ (after E' _ (by rw [hw];exact G') (GB hv hv2))
    rw [hw] at this
    exact this
def AltOK (al:Nat→Option (Nat×(Blk→Bool))) (ms:List Nat) (rf:List Rec):Prop:=∀ i h0 okB,al i=some (h0,okB)→∀ j s b,rf[j]?=some s→find s.dh h0=some b→j≠i→
 (j<i→((ms[i]?).getD 0).testBit j=true)∧(i<j→((ms[j]?).getD 0).testBit i=true∨okB b=true)
theorem AltOK.none {ms:List Nat} {rf:List Rec}:AltOK (fun _=>Option.none) ms rf:=fun i h0 okB h=>by cases h
theorem Fy {Cf:Nat→Cfg} {lo:Nat→Nat} {al:Nat→Option (Nat×(Blk→Bool))} {N:Nat} (hC :∀ i,CfgOK P (Cf i)) (hN :∀ i,(Cf i).N=N) {B:Base} {E0:Env} {all:List Oper} {st:St} {df:Dl} {rf:List Rec} (hrun:RunV Cf lo al all st 0 all ⟨[],[]⟩ [] df rf) (hE:cF 0 all=true) (hck:dX (bL all []) 0 rf=true) (hal:AltOK al (bL all []) rf) {Q:Exit→Act→World→Prop}
  (hfr0 :∀ i,i<all.length→∀ n,lo i≤n→n<lo i +(Cf i).K→¬ E0.U n) (hlo :∀ i j,i<j→j<all.length→lo i +(Cf i).K≤lo j)
  (hQ :∀ E a,HRel B E→Ext E0 E→E.H=ak st.H df.hp→(∀ n,E.U n→E0.U n∨∃ i,i<all.length∧lo i≤n∧n<lo i +(Cf i).K)→dF E (find (df.tm++st.tm)) a→a.tmps.size=N→a.defers=[]→Q .normal a E.w) :
  ∀ (fuel:Nat) (listed:Array Bool) (a:Act) (w:World),listed.size=all.length→unl all.length listed=fuel→
   (∀ j oj,all[j]?=some oj→listed.getD j false=true→∀ e∈oj.after,Region.binds .any e=true→listed.getD e.on false=true)→
   InvV Cf lo N B E0 st rf (fun i=>listed.getD i false) a w→wpAny P .any all.toArray Q fuel listed a w:=by
 obtain ⟨⟨more,e1,e2⟩,g1,g2,g3⟩:=wx all 0 ⟨[],[]⟩ [] df rf hrun rfl rfl rfl
 have hlen:rf.length=all.length:=by rw [e1];simpa using e2
 have full :∀ (listed:Array Bool),listed.size=all.length→Region.ready .any all.toArray listed=[]→∀ i,i<all.length→listed.getD i false=true:=by
  intro listed hsz hrd i
  induction i using Nat.strongRecOn with
  | _ i ih=>
   intro hi
   cases hb:listed.getD i false with
   | true=>rfl
   | false=>
    have hun:listed.getD i true=false:=by
     have:i<listed.size:=by omega
     simp [this] at hb ⊢
     exact hb
    have hoi:all[i]?=some all[i]:=List.getElem?_eq_getElem hi
    have:i∈Region.ready .any all.toArray listed:=mem_ready.2 ⟨hun,all[i],by simp,fun e he hbd=>by
     have:=fk all 0 hE i _ hoi e he hbd
     exact ih e.on (by omega) (by omega)⟩
    rw [hrd] at this
    cases this
 have close :∀ (listed:Array Bool) (a:Act) (w:World),listed.size=all.length→(∀ i,i<all.length→listed.getD i false=true)→InvV Cf lo N B E0 st rf (fun i=>listed.getD i false) a w→Q .normal a w:=by
  intro listed a w hsz hall hI
  obtain ⟨⟨E,hE',rfl,hX,hEH,hU,hT⟩,hs,hd⟩:=hI
  have hsel :∀ {α:Type} (us:List (List (Nat×α))) (f:Nat→Option α),us.length=all.length→bJ (fun i=>listed.getD i false) f 0 us=us.foldl dC f:=fun us f hl=>by
   have h1:=kV us f 0 us.length
   rw [List.take_of_length_le (Nat.le_refl _)] at h1
   rw [←h1]
   funext k
   refine fQ us 0 f f rfl (fun j u hj _=>?_)
   have hjl:j<us.length:=(List.getElem?_eq_some_iff.1 hj).1
   rw [Nat.zero_add,hall j (by omega)]
   exact (by rw [Nat.blt_eq];omega:Nat.blt j (0+us.length)=true).symm
  refine hQ E a hE' hX ?_ (fun n hn=>?_) (fun s v hv=>?_) hs hd
  ·rw [hEH,hsel _ _ (by simp [hlen]),g2]
  ·rcases hU n hn with h |⟨i,h1,_,h3,h4⟩
   ·exact .inl h
   ·exact .inr ⟨i,by omega,h3,h4⟩
  ·refine hT s v ?_
   rw [hsel _ _ (by simp [hlen]),←g1]
   exact hv
 intro fuel
 induction fuel with
 | zero=>
  intro listed a w hsz hun _ hI
  have hall :∀ i,i<all.length→listed.getD i false=true:=fun i hi=>by
   have h0 :(List.range all.length).filter (fun i=>!listed.getD i true)=[]:=List.eq_nil_of_length_eq_zero hun
   have:=List.filter_eq_nil_iff.1 h0 i (List.mem_range.2 hi)
   have hi':i<listed.size:=by omega
   simp [hi'] at this ⊢
   exact this
  refine ⟨?_,close listed a w hsz hall hI⟩
  cases hr:Region.ready .any all.toArray listed with
  | nil=>rfl
  | cons i l=>
   have hm:i∈Region.ready .any all.toArray listed:=by rw [hr];exact List.mem_cons_self
   obtain ⟨h1,o,h2,_⟩:=mem_ready.1 hm
   have hi:i<all.length:=by
    have:=(Array.getElem?_eq_some_iff.1 h2).1
    simpa using this
   have h3:=hall i hi
   have hi':i<listed.size:=by omega
   simp [hi'] at h1 h3
   rw [h1] at h3;cases h3
 | succ fuel ih=>
  intro listed a w hsz hun hclosed hI
  refine ⟨fun hr=>close listed a w hsz (full listed hsz hr) hI,fun i hi=>?_⟩
  obtain ⟨h1,o,h2,hdir⟩:=mem_ready.1 hi
  have ho:all[i]?=some o:=by simpa using h2
  have hil:i<all.length:=(List.getElem?_eq_some_iff.1 ho).1
  have his:i<listed.size:=by omega
  have hLi:listed.getD i false=false:=by simp [his] at h1 ⊢;exact h1
  obtain ⟨r,tm,H,k1,k2,k3,k4⟩:=g3 i o ho
  simp only [Nat.zero_add] at k1 k2 k3 k4
  have hget :∀ j,(listed.setIfInBounds i true).getD j false=if j=i then true else listed.getD j false:=fun j=>by
   by_cases e:j=i
   ·subst e;simp [his]
   ·simp [e,Array.getElem?_setIfInBounds_ne (Ne.symm e),Array.getD_eq_getD_getElem?]
  have hgetT :∀ j,j≠i→(listed.setIfInBounds i true).getD j true=listed.getD j true:=fun j e=>by
   simp [Array.getElem?_setIfInBounds_ne (Ne.symm e),Array.getD_eq_getD_getElem?]
  refine FQ hC hN (E0:=E0) (by rw [hlen];exact hfr0) (by rw [hlen];exact hlo) (L:=fun i=>listed.getD i false) (L':=fun j=>(listed.setIfInBounds i true).getD j false) ho k1 hLi hget k2 ?_ ?_ (fun j s hs hor=>?_) (fun h0 okB ha j s b hs hb=>⟨fun hlt=>?_,fun hgt hLj=>?_⟩) hI (fun a w hI'=>ih _ a w (by simpa using hsz) ?_ ?_ hI')
  ·rw [k3]
   have:=kV (rf.map eE) (find st.tm) 0 i
   rw [←List.map_take,] at this
   simpa using this.symm
  ·rw [k4]
   have:=kV (rf.map Rec.dh) st.H 0 i
   rw [←List.map_take] at this
   simpa using this.symm
  ·rcases hor with ⟨hlt,hLj⟩ |⟨hgt,hLj⟩
   ·rcases gd rf 0 hck j i s r hlt hs k1 with h|h
    ·simp only [Nat.zero_add] at h
     have:=cR hE hclosed i i (Nat.le_refl _) o ho hdir j h
     rw [this] at hLj;cases hLj
    ·exact h.symm
   ·rcases gd rf 0 hck i j r s hgt k1 hs with h|h
    ·simp only [Nat.zero_add] at h
     have hjl:j<all.length:=by rw [←hlen];exact (List.getElem?_eq_some_iff.1 hs).1
     have hoj:all[j]?=some all[j]:=List.getElem?_eq_getElem hjl
     have:=cR hE hclosed j j (Nat.le_refl _) _ hoj (hclosed j _ hoj hLj) i h
     rw [this] at hLi;cases hLi
    ·exact h
  ·exact cR hE hclosed i i (Nat.le_refl _) o ho hdir j ((hal i h0 okB ha j s b hs hb (by omega)).1 hlt)
  ·rcases (hal i h0 okB ha j s b hs hb (by omega)).2 hgt with h|h
   ·have hjl:j<all.length:=by rw [←hlen];exact (List.getElem?_eq_some_iff.1 hs).1
    have hoj:all[j]?=some all[j]:=List.getElem?_eq_getElem hjl
    have:=cR hE hclosed j j (Nat.le_refl _) _ hoj (hclosed j _ hoj hLj) i h
    rw [this] at hLi;cases hLi
   ·exact h
  ·have:=nB (p:=fun j=>!listed.getD j true) (q:=fun j=>!(listed.setIfInBounds i true).getD j true) (i:=i) (by simp [h1]) (by simp [his]) (fun j e=>by simp [hgetT j e]) (List.range all.length) List.nodup_range (List.mem_range.2 hil)
   unfold unl at hun ⊢
   omega
  ·intro j oj hj hlj e he hb
   rw [hget] at hlj ⊢
   by_cases e1:e.on=i
   ·rw [if_pos e1]
   ·rw [if_neg e1]
    by_cases e2:j=i
    ·subst e2
     rw [ho] at hj;cases hj
     exact hdir e he hb
    ·rw [if_neg e2] at hlj
     exact hclosed j oj hj hlj e he hb
theorem FA {Cf:Nat→Cfg} {lo:Nat→Nat} {al:Nat→Option (Nat×(Blk→Bool))} {N:Nat} (hC :∀ i,CfgOK P (Cf i)) (hN :∀ i,(Cf i).N=N) (hP:P.follows .mixedOrders=true) {B:Base} {all:List Oper} {st:St} {df:Dl} {rf:List Rec} (hrun:RunV Cf lo al all st 0 all ⟨[],[]⟩ [] df rf) (hE:cF 0 all=true) (hck:dX (bL all []) 0 rf=true) (hal:AltOK al (bL all []) rf) {Q:Exit→Act→World→Prop}
  {E:Env} (hE':HRel B E) (hH:E.H=st.H) {a:Act} (hT:dF E (find st.tm) a) (hsz:a.tmps.size=N) (hdf:a.defers=[])
  (hfr0 :∀ i,i<all.length→∀ n,lo i≤n→n<lo i +(Cf i).K→¬ E.U n) (hlo :∀ i j,i<j→j<all.length→lo i +(Cf i).K≤lo j)
  (hQ :∀ E' a,HRel B E'→Ext E E'→E'.H=ak st.H df.hp→(∀ n,E'.U n→E.U n∨∃ i,i<all.length∧lo i≤n∧n<lo i +(Cf i).K)→dF E' (find (df.tm++st.tm)) a→a.tmps.size=N→a.defers=[]→Q .normal a E'.w) (id:Nat) :
  (Code.region id all.toArray true).wp P Q a E.w:=by
 refine wp_region_any hP ?_
 obtain ⟨R,X⟩:=wF hE' { E.w with drawn:=E.w.drawn+1 } rfl rfl rfl rfl
 have hfalse :∀ i,(Array.replicate all.toArray.size false).getD i false=false:=fun i=>by
  rcases Nat.lt_or_ge i all.length with h|h
  ·simp [h]
  ·simp [h]
 have hno :∀ {α:Type} (us:List (List (Nat×α))) (f:Nat→Option α) (i:Nat),bJ (fun i=>(Array.replicate all.toArray.size false).getD i false) f i us=f:=by
  intro α us
  induction us with
  | nil=>intro f i;rfl
  | cons u us ih=>intro f i;unfold bJ;rw [hfalse];simp only [Bool.false_eq_true,if_false];exact ih f _
 refine Fy hC hN (E0:={ E with w:={ E.w with drawn:=E.w.drawn+1 } }) hrun hE hck hal hfr0 hlo (fun E1 a1 r1 x1 h1 u1 t1 s1 d1=>hQ E1 a1 r1 (X.trans x1) h1 u1 t1 s1 d1) _ _ a _ (by simp) ?_ (fun j oj hj hl=>by rw [hfalse] at hl;cases hl) ⟨⟨_,R,rfl,Ext.refl _,?_,fun n hn=> .inl hn,fun s v hv=>?_⟩,hsz,hdf⟩
 ·unfold unl
  have :(List.range all.length).filter (fun i=>!(Array.replicate all.toArray.size false).getD i true)=List.range all.length:=List.filter_eq_self.2 fun i hi=>by
   have:=List.mem_range.1 hi
   simp [this]
  rw [this]
  simp
 ·rw [hno _ _ _];exact hH
 ·rw [hno] at hv
  exact aK X _ _ (hT s v hv)
end Go.Mir
namespace Go.Mir
open Go.RowKit
variable {P:Program}
theorem la {E:Env} {v:V} {u:Value} (h:aa E v u):aa E (jy v) u:=by
 cases v <;> first|exact h|simpa [jy,aa] using h
theorem Ku {a:Act} {w:World} {c:Call} {o:Oper} (ho:o.op = .call c) {f:Operand} (hf:c.callee = .value f) {g:FuncId} {l:Array Value} (hfe:a.eval f = .func (.func g) #[] l)
  (hfn :∃ fn,P.funcs[g]?=some fn∧fn.body.isSome=true∧(fn.name == "runtime.NumGoroutine")=false) {R:Ending→World→Prop} (hcalls:Calls P g (c.args.toList.map a.eval++l.toList).toArray w R)
  {next:Act→World→Prop} {Q:Exit→Act→World→Prop} (hn :∀ e w',R e w'→∃ v',e = .returned v'∧next (a.put o.dst v') w'):o.wp P a w next Q:=by
 obtain ⟨fn,h1,h2,h3⟩:=hfn
 have hb :¬ fn.body=none:=by cases hb:fn.body with|none=>rw [hb] at h2;cases h2|some _=>simp
 have h4 :¬ fn.name = "runtime.NumGoroutine":=by simpa using h3
 have hrun :(execOp a.eval o).run P w = .ok (.enter g (c.args.toList.map a.eval++l.toList).toArray) w:=by
  have e :(c.args.toList.map a.eval++l.toList).toArray=#[]++c.args.map a.eval++l:=by
   apply Array.ext'
   simp
  rw [e]
  simp [execOp,ho,resolve,hf,Deferred.ofValue,hfe,invoke,callFunc,h1,h4,hb]
 unfold Oper.wp
 rw [hrun]
 simp only [Oper.upon]
 refine hcalls.mono fun e w' hh=>?_
 obtain ⟨v',rfl,h⟩:=hn e w' hh
 exact h
structure RR (B:Base) (E0:Env) (n0 N:Nat) (s:RS) (E:Env) (a:Act):Prop where
 rel:HRel B E
 ext:Ext E0 E
 h:E.H=s.hp.get
 u :∀ n,E.U n→E0.U n∨(n0≤n∧n<s.nx)
 le:n0≤s.nx
 tm:dF E s.tm.get a
 size:a.tmps.size=N
 defers:a.defers=[]
structure Came (B:Base) (E:Env) (hp':aw) (nx nx':Nat) (v:V) (v':Value) (w':World) (E':Env):Prop where
 rel:HRel B E'
 w:E'.w=w'
 h:E'.H=hp'
 ext:Ext E E'
 u :∀ n,E'.U n→E.U n∨(nx≤n∧n<nx')
 v:aa E' v v'
variable {tb:Tbl} {N:Nat} {call:GF} {all:List Oper} {B:Base} {E0:Env} {n0:Nat}
theorem RR.put {s:RS} {E:Env} {a:Act} (hR:RR B E0 n0 N s E a) {E':Env} {hp:Tri Blk} {nx:Nat} (hrel:HRel B E') (hext:Ext E E') (hh:E'.H=hp.get) (hu :∀ n,E'.U n→E.U n∨(s.nx≤n∧n<nx)) (hle:s.nx≤nx)
  {d:Option Nat} (hd:dstIn N d=true) {v:V} {v':Value} (hv:aa E' v v') {tm:Tri V} (htm :∀ k,tm.get k=match find (cg d (jy v)) k with|some u=>some u|none=>s.tm.get k):RR B E0 n0 N ⟨tm,hp,nx⟩ E' (a.put d v'):=by
 have hle0:=hR.le
 refine ⟨hrel,hR.ext.trans hext,hh,fun n hn=>?_,Nat.le_trans hle0 hle,yh hext hR.tm hR.size hd (la hv) (fun k u hk=>?_),by rw [ma];exact hR.size,by rw [iB];exact hR.defers⟩
 ·show E0.U n∨(n0≤n∧n<nx)
  rcases hu n hn with h|h
  ·rcases hR.u n h with h|h
   ·exact .inl h
   ·exact .inr ⟨h.1,by omega⟩
  ·exact .inr ⟨by omega,h.2⟩
 ·rw [htm] at hk
  cases hf:find (cg d (jy v)) k with
  | some x=>rw [hf] at hk;exact .inl hk
  | none=>rw [hf] at hk;exact .inr ⟨rfl,hk⟩
end Go.Mir
namespace Go.Mir
open Go.RowKit
variable {P:Program}
theorem xE {α:Type} {l:List (Nat×α)} {k:Nat} (h:memN (l.map (·.1)) k=true):find l k≠none:=by
 induction l with
 | nil=>simp [memN] at h
 | cons q l ih=>
  obtain ⟨a,b⟩:=q
  simp only [List.map_cons,memN,Bool.or_eq_true] at h
  simp only [find]
  cases hb:Nat.beq a k with
  | true=>simp
  | false=>
   simp only [cond_false]
   refine ih ?_
   rcases h with h|h
   ·rw [hb] at h;cases h
   ·exact h
def Chain:Nat→List (Nat×Cfg)→Nat→Prop
 | n,[],e=>n=e
 | n,q::r,e=>q.1=n∧∃ n2,n+q.2.K≤n2∧Chain n2 r e
theorem Chain.le :∀ {n:Nat} {l:List (Nat×Cfg)} {e:Nat},Chain n l e→n≤e
 | n,[],e,h=>Nat.le_of_eq h
 | n,q::r,e,⟨_,n2,h1,h2⟩=>by have:=h2.le;omega
theorem Chain.at :∀ {n:Nat} {l:List (Nat×Cfg)} {e:Nat},Chain n l e→∀ (j:Nat) (q:Nat×Cfg),l[j]?=some q→n≤q.1∧q.1+q.2.K≤e
 | n,[],e,_,j,q,hq=>by simp at hq
 | n,p::r,e,⟨h0,n2,h1,h2⟩,j,q,hq=>by
  have hle:=h2.le
  cases j with
  | zero=>
   simp only [List.getElem?_cons_zero,Option.some.injEq] at hq
   subst hq
   omega
  | succ j=>
   have:=h2.at j q (by simpa using hq)
   omega
theorem Chain.lt :∀ {n:Nat} {l:List (Nat×Cfg)} {e:Nat},Chain n l e→∀ (i j:Nat) (p q:Nat×Cfg),i<j→l[i]?=some p→l[j]?=some q→p.1+p.2.K≤q.1
 | n,[],e,_,i,j,p,q,_,hp,_=>by simp at hp
 | n,x::r,e,⟨h0,n2,h1,h2⟩,i,j,p,q,hij,hp,hq=>by
  cases j with
  | zero=>omega
  | succ j=>
   cases i with
   | zero=>
    simp only [List.getElem?_cons_zero,Option.some.injEq] at hp
    subst hp
    have:=(h2.at j q (by simpa using hq)).1
    omega
   | succ i=>exact h2.lt i j p q (by omega) (by simpa using hp) (by simpa using hq)
variable {tb:Tbl} {N:Nat} {call:GF} {all:List Oper}
end Go.Mir
namespace Go.Mir
open Go.RowKit
variable {P:Program}
def Tri.toL {α:Type}:Tri α→List (Nat×α)
 | .lf=> []
 | .nd l v r=>(match v with|some x=> [(0,x)]|none=> []) ++((l.toL.map fun p=>(2*p.1+1,p.2)) ++(r.toL.map fun p=>(2*p.1+2,p.2)))
variable {tb:Tbl} {N:Nat} {call:GF} {B:Base} {E0:Env} {n0:Nat}
def SA (td:TD):TD:=⟨td.kind,td.size,td.bytes,td.zero,none⟩
def Gz (tb:Tbl):Tbl:=fun t=>match tb t with
 | some td=>some (SA td)
 | none=>none
theorem LQ {tb:Tbl} (h:bc P tb):bc P (Gz tb):=fun t td ht=>by
 unfold Gz at ht
 split at ht
 case h_2=>cases ht
 rename_i td0 h0
 cases ht
 have:=h _ _ h0
 exact ⟨fun hp=>this.eqk hp,this.info,this.kind,this.zagg⟩
def Ek (P:Program):Bool:=P.funcs.toList.all fun fn=>!(fn.name == "runtime.NumGoroutine")
theorem Au (h:Ek P=true) (f:FuncId) (fn:Func) (hf:P.funcs[f]?=some fn) :(fn.name == "runtime.NumGoroutine")=false:=by
 have:=List.all_eq_true.1 h fn (by
  obtain ⟨hl,he⟩:=Array.getElem?_eq_some_iff.1 hf
  rw [←he]
  exact Array.mem_toList_iff.2 (Array.getElem_mem hl))
 simpa using this
end Go.Mir
namespace Go.Mir
open Go.RowKit
noncomputable section
structure N8 (α:Type) where
 a:α
 b:α
 c:α
 d:α
 e:α
 f:α
 g:α
 h:α
structure Ac (σ α:Type) where
 get:σ→α
 put:α→σ→σ
def Ac.da {α:Type}:Ac (N8 α) α:=⟨N8.a,fun x n=>N8.rec (motive:=fun _=>N8 α) (fun _ b c d e f g h=>⟨x,b,c,d,e,f,g,h⟩) n⟩
def Ac.db {α:Type}:Ac (N8 α) α:=⟨N8.b,fun x n=>N8.rec (motive:=fun _=>N8 α) (fun a _ c d e f g h=>⟨a,x,c,d,e,f,g,h⟩) n⟩
def Ac.dc {α:Type}:Ac (N8 α) α:=⟨N8.c,fun x n=>N8.rec (motive:=fun _=>N8 α) (fun a b _ d e f g h=>⟨a,b,x,d,e,f,g,h⟩) n⟩
def Ac.dd {α:Type}:Ac (N8 α) α:=⟨N8.d,fun x n=>N8.rec (motive:=fun _=>N8 α) (fun a b c _ e f g h=>⟨a,b,c,x,e,f,g,h⟩) n⟩
def Ac.de {α:Type}:Ac (N8 α) α:=⟨N8.e,fun x n=>N8.rec (motive:=fun _=>N8 α) (fun a b c d _ f g h=>⟨a,b,c,d,x,f,g,h⟩) n⟩
def Ac.df {α:Type}:Ac (N8 α) α:=⟨N8.f,fun x n=>N8.rec (motive:=fun _=>N8 α) (fun a b c d e _ g h=>⟨a,b,c,d,e,x,g,h⟩) n⟩
def Ac.dg {α:Type}:Ac (N8 α) α:=⟨N8.g,fun x n=>N8.rec (motive:=fun _=>N8 α) (fun a b c d e f _ h=>⟨a,b,c,d,e,f,x,h⟩) n⟩
def Ac.dh {α:Type}:Ac (N8 α) α:=⟨N8.h,fun x n=>N8.rec (motive:=fun _=>N8 α) (fun a b c d e f g _=>⟨a,b,c,d,e,f,g,x⟩) n⟩
def d8 {α:Type} (r:Nat):Ac (N8 α) α:=Bool.rec (motive:=fun _=>Ac (N8 α) α) (Bool.rec (motive:=fun _=>Ac (N8 α) α) (Bool.rec (motive:=fun _=>Ac (N8 α) α) (Bool.rec (motive:=fun _=>Ac (N8 α) α) (Bool.rec (motive:=fun _=>Ac (N8 α) α) (Bool.rec (motive:=fun _=>Ac (N8 α) α) (Bool.rec (motive:=fun _=>Ac (N8 α) α) (Ac.dh) Ac.dg (Nat.beq r 6)) Ac.df (Nat.beq r 5)) Ac.de (Nat.beq r 4)) Ac.dd (Nat.beq r 3)) Ac.dc (Nat.beq r 2)) Ac.db (Nat.beq r 1)) Ac.da (Nat.beq r 0)
def Ac.comp3 {s0 s1 s2 s3:Type} (f1:Ac s0 s1) (f2:Ac s1 s2) (f3:Ac s2 s3):Ac s0 s3:=
 Ac.rec (motive:=fun _=>Ac s0 s3) (fun g1 p1=>Ac.rec (motive:=fun _=>Ac s0 s3) (fun g2 p2=>Ac.rec (motive:=fun _=>Ac s0 s3) (fun g3 p3=>⟨fun s=>(g3 (g2 (g1 s))),fun x s=>(p1 (p2 (p3 x (g2 (g1 s))) (g1 s)) s)⟩) f3) f2) f1
def Ac.comp4 {s0 s1 s2 s3 s4:Type} (f1:Ac s0 s1) (f2:Ac s1 s2) (f3:Ac s2 s3) (f4:Ac s3 s4):Ac s0 s4:=
 Ac.rec (motive:=fun _=>Ac s0 s4) (fun g1 p1=>Ac.rec (motive:=fun _=>Ac s0 s4) (fun g2 p2=>Ac.rec (motive:=fun _=>Ac s0 s4) (fun g3 p3=>Ac.rec (motive:=fun _=>Ac s0 s4) (fun g4 p4=>⟨fun s=>(g4 (g3 (g2 (g1 s)))),fun x s=>(p1 (p2 (p3 (p4 x (g3 (g2 (g1 s)))) (g2 (g1 s))) (g1 s)) s)⟩) f4) f3) f2) f1
def Ac.comp6 {s0 s1 s2 s3 s4 s5 s6:Type} (f1:Ac s0 s1) (f2:Ac s1 s2) (f3:Ac s2 s3) (f4:Ac s3 s4) (f5:Ac s4 s5) (f6:Ac s5 s6):Ac s0 s6:=
 Ac.rec (motive:=fun _=>Ac s0 s6) (fun g1 p1=>Ac.rec (motive:=fun _=>Ac s0 s6) (fun g2 p2=>Ac.rec (motive:=fun _=>Ac s0 s6) (fun g3 p3=>Ac.rec (motive:=fun _=>Ac s0 s6) (fun g4 p4=>Ac.rec (motive:=fun _=>Ac s0 s6) (fun g5 p5=>Ac.rec (motive:=fun _=>Ac s0 s6) (fun g6 p6=>⟨fun s=>(g6 (g5 (g4 (g3 (g2 (g1 s)))))),fun x s=>(p1 (p2 (p3 (p4 (p5 (p6 x (g5 (g4 (g3 (g2 (g1 s)))))) (g4 (g3 (g2 (g1 s))))) (g3 (g2 (g1 s)))) (g2 (g1 s))) (g1 s)) s)⟩) f6) f5) f4) f3) f2) f1
def dig (i k:Nat):Nat:=Nat.mod (Nat.div i k) 8
abbrev T3 (α:Type):=N8 (N8 (N8 α))
abbrev T4 (α:Type):=N8 (T3 α)
abbrev T6 (α:Type):=N8 (N8 (T4 α))
def cE {α:Type} (i:Nat):Ac (T3 α) α:=Ac.comp3 (d8 (dig i 64)) (d8 (dig i 8)) (d8 (dig i 1))
def tR {α:Type} (i:Nat):Ac (T4 α) α:=Ac.comp4 (d8 (dig i 512)) (d8 (dig i 64)) (d8 (dig i 8)) (d8 (dig i 1))
def wX {α:Type} (i:Nat):Ac (T6 α) α:=Ac.comp6 (d8 (dig i 32768)) (d8 (dig i 4096)) (d8 (dig i 512)) (d8 (dig i 64)) (d8 (dig i 8)) (d8 (dig i 1))
def C1 {α:Type} (x:α):N8 α:=⟨x,x,x,x,x,x,x,x⟩
def Gd {α:Type} (x:α):T3 α:=C1 (C1 (C1 x))
def Pz {α:Type} (x:α):T4 α:=C1 (Gd x)
def LF {α:Type} (x:α):T6 α:=C1 (C1 (Pz x))
structure Ac.Law {σ α:Type} (f:Ac σ α):Prop where
 same :∀ x s,f.get (f.put x s)=x
structure Ac.Apart {σ α:Type} (f g:Ac σ α):Prop where
 l :∀ x s,g.get (f.put x s)=g.get s
theorem aV {α:Type} (r:Nat) :(d8 r:Ac (N8 α) α).Law:=by
 constructor
 intro x s
 unfold d8
 cases Nat.beq r 0
 case true=>rfl
 cases Nat.beq r 1
 case true=>rfl
 cases Nat.beq r 2
 case true=>rfl
 cases Nat.beq r 3
 case true=>rfl
 cases Nat.beq r 4
 case true=>rfl
 cases Nat.beq r 5
 case true=>rfl
 cases Nat.beq r 6
 case true=>rfl
 rfl
theorem cH {α:Type} :∀ {r s:Nat},r<8→s<8→r≠s→(d8 r:Ac (N8 α) α).Apart (d8 s):=by
 intro r s hr hs h
 constructor
 intro x n
 match r,s,hr,hs,h with
 | 0,0,_,_,h=>exact absurd rfl h
 | 0,1,_,_,h=>rfl
 | 0,2,_,_,h=>rfl
 | 0,3,_,_,h=>rfl
 | 0,4,_,_,h=>rfl
 | 0,5,_,_,h=>rfl
 | 0,6,_,_,h=>rfl
 | 0,7,_,_,h=>rfl
 | 1,0,_,_,h=>rfl
 | 1,1,_,_,h=>exact absurd rfl h
 | 1,2,_,_,h=>rfl
 | 1,3,_,_,h=>rfl
 | 1,4,_,_,h=>rfl
 | 1,5,_,_,h=>rfl
 | 1,6,_,_,h=>rfl
 | 1,7,_,_,h=>rfl
 | 2,0,_,_,h=>rfl
 | 2,1,_,_,h=>rfl
 | 2,2,_,_,h=>exact absurd rfl h
 | 2,3,_,_,h=>rfl
 | 2,4,_,_,h=>rfl
 | 2,5,_,_,h=>rfl
 | 2,6,_,_,h=>rfl
 | 2,7,_,_,h=>rfl
 | 3,0,_,_,h=>rfl
 | 3,1,_,_,h=>rfl
 | 3,2,_,_,h=>rfl
 | 3,3,_,_,h=>exact absurd rfl h
 | 3,4,_,_,h=>rfl
 | 3,5,_,_,h=>rfl
 | 3,6,_,_,h=>rfl
 | 3,7,_,_,h=>rfl
 | 4,0,_,_,h=>rfl
 | 4,1,_,_,h=>rfl
 | 4,2,_,_,h=>rfl
 | 4,3,_,_,h=>rfl
 | 4,4,_,_,h=>exact absurd rfl h
 | 4,5,_,_,h=>rfl
 | 4,6,_,_,h=>rfl
 | 4,7,_,_,h=>rfl
 | 5,0,_,_,h=>rfl
 | 5,1,_,_,h=>rfl
 | 5,2,_,_,h=>rfl
 | 5,3,_,_,h=>rfl
 | 5,4,_,_,h=>rfl
 | 5,5,_,_,h=>exact absurd rfl h
 | 5,6,_,_,h=>rfl
 | 5,7,_,_,h=>rfl
 | 6,0,_,_,h=>rfl
 | 6,1,_,_,h=>rfl
 | 6,2,_,_,h=>rfl
 | 6,3,_,_,h=>rfl
 | 6,4,_,_,h=>rfl
 | 6,5,_,_,h=>rfl
 | 6,6,_,_,h=>exact absurd rfl h
 | 6,7,_,_,h=>rfl
 | 7,0,_,_,h=>rfl
 | 7,1,_,_,h=>rfl
 | 7,2,_,_,h=>rfl
 | 7,3,_,_,h=>rfl
 | 7,4,_,_,h=>rfl
 | 7,5,_,_,h=>rfl
 | 7,6,_,_,h=>rfl
 | 7,7,_,_,h=>exact absurd rfl h
theorem Fq {s0 s1 s2 s3:Type} {f1:Ac s0 s1} {f2:Ac s1 s2} {f3:Ac s2 s3} (h1:f1.Law) (h2:f2.Law) (h3:f3.Law) :(Ac.comp3 f1 f2 f3).Law:=by
 constructor
 intro x s
 show f3.get (f2.get (f1.get ((Ac.comp3 f1 f2 f3).put x s)))=x
 show f3.get (f2.get (f1.get ((f1.put (f2.put (f3.put x (f2.get (f1.get s))) (f1.get s)) s))))=x
 rw [h1.same,h2.same,h3.same]
theorem w7 {s0 s1 s2 s3:Type} {f1:Ac s0 s1} {f2:Ac s1 s2} {f3:Ac s2 s3} {g1:Ac s0 s1} {g2:Ac s1 s2} {g3:Ac s2 s3} (h:f1.Apart g1) :(Ac.comp3 f1 f2 f3).Apart (Ac.comp3 g1 g2 g3):=by
 constructor
 intro x s
 show g3.get (g2.get (g1.get ((f1.put (f2.put (f3.put x (f2.get (f1.get s))) (f1.get s)) s))))=g3.get (g2.get (g1.get (s)))
 rw [h.l]
theorem w8 {s0 s1 s2 s3:Type} {f1:Ac s0 s1} {f2:Ac s1 s2} {f3:Ac s2 s3} {g2:Ac s1 s2} {g3:Ac s2 s3} (h1:f1.Law) (h:f2.Apart g2) :(Ac.comp3 f1 f2 f3).Apart (Ac.comp3 f1 g2 g3):=by
 constructor
 intro x s
 show g3.get (g2.get (f1.get ((f1.put (f2.put (f3.put x (f2.get (f1.get s))) (f1.get s)) s))))=g3.get (g2.get (f1.get (s)))
 rw [h1.same,h.l]
theorem w9 {s0 s1 s2 s3:Type} {f1:Ac s0 s1} {f2:Ac s1 s2} {f3:Ac s2 s3} {g3:Ac s2 s3} (h1:f1.Law) (h2:f2.Law) (h:f3.Apart g3) :(Ac.comp3 f1 f2 f3).Apart (Ac.comp3 f1 f2 g3):=by
 constructor
 intro x s
 show g3.get (f2.get (f1.get ((f1.put (f2.put (f3.put x (f2.get (f1.get s))) (f1.get s)) s))))=g3.get (f2.get (f1.get (s)))
 rw [h1.same,h2.same,h.l]
theorem Fs {s0 s1 s2 s3 s4:Type} {f1:Ac s0 s1} {f2:Ac s1 s2} {f3:Ac s2 s3} {f4:Ac s3 s4} (h1:f1.Law) (h2:f2.Law) (h3:f3.Law) (h4:f4.Law) :(Ac.comp4 f1 f2 f3 f4).Law:=by
 constructor
 intro x s
 show f4.get (f3.get (f2.get (f1.get ((Ac.comp4 f1 f2 f3 f4).put x s))))=x
 show f4.get (f3.get (f2.get (f1.get ((f1.put (f2.put (f3.put (f4.put x (f3.get (f2.get (f1.get s)))) (f2.get (f1.get s))) (f1.get s)) s)))))=x
 rw [h1.same,h2.same,h3.same,h4.same]
theorem xa {s0 s1 s2 s3 s4:Type} {f1:Ac s0 s1} {f2:Ac s1 s2} {f3:Ac s2 s3} {f4:Ac s3 s4} {g1:Ac s0 s1} {g2:Ac s1 s2} {g3:Ac s2 s3} {g4:Ac s3 s4} (h:f1.Apart g1) :(Ac.comp4 f1 f2 f3 f4).Apart (Ac.comp4 g1 g2 g3 g4):=by
 constructor
 intro x s
 show g4.get (g3.get (g2.get (g1.get ((f1.put (f2.put (f3.put (f4.put x (f3.get (f2.get (f1.get s)))) (f2.get (f1.get s))) (f1.get s)) s)))))=g4.get (g3.get (g2.get (g1.get (s))))
 rw [h.l]
theorem xb {s0 s1 s2 s3 s4:Type} {f1:Ac s0 s1} {f2:Ac s1 s2} {f3:Ac s2 s3} {f4:Ac s3 s4} {g2:Ac s1 s2} {g3:Ac s2 s3} {g4:Ac s3 s4} (h1:f1.Law) (h:f2.Apart g2) :(Ac.comp4 f1 f2 f3 f4).Apart (Ac.comp4 f1 g2 g3 g4):=by
 constructor
 intro x s
 show g4.get (g3.get (g2.get (f1.get ((f1.put (f2.put (f3.put (f4.put x (f3.get (f2.get (f1.get s)))) (f2.get (f1.get s))) (f1.get s)) s)))))=g4.get (g3.get (g2.get (f1.get (s))))
 rw [h1.same,h.l]
theorem xc {s0 s1 s2 s3 s4:Type} {f1:Ac s0 s1} {f2:Ac s1 s2} {f3:Ac s2 s3} {f4:Ac s3 s4} {g3:Ac s2 s3} {g4:Ac s3 s4} (h1:f1.Law) (h2:f2.Law) (h:f3.Apart g3) :(Ac.comp4 f1 f2 f3 f4).Apart (Ac.comp4 f1 f2 g3 g4):=by
 constructor
 intro x s
 show g4.get (g3.get (f2.get (f1.get ((f1.put (f2.put (f3.put (f4.put x (f3.get (f2.get (f1.get s)))) (f2.get (f1.get s))) (f1.get s)) s)))))=g4.get (g3.get (f2.get (f1.get (s))))
 rw [h1.same,h2.same,h.l]
theorem xd {s0 s1 s2 s3 s4:Type} {f1:Ac s0 s1} {f2:Ac s1 s2} {f3:Ac s2 s3} {f4:Ac s3 s4} {g4:Ac s3 s4} (h1:f1.Law) (h2:f2.Law) (h3:f3.Law) (h:f4.Apart g4) :(Ac.comp4 f1 f2 f3 f4).Apart (Ac.comp4 f1 f2 f3 g4):=by
 constructor
 intro x s
 show g4.get (f3.get (f2.get (f1.get ((f1.put (f2.put (f3.put (f4.put x (f3.get (f2.get (f1.get s)))) (f2.get (f1.get s))) (f1.get s)) s)))))=g4.get (f3.get (f2.get (f1.get (s))))
 rw [h1.same,h2.same,h3.same,h.l]
theorem Ft {s0 s1 s2 s3 s4 s5 s6:Type} {f1:Ac s0 s1} {f2:Ac s1 s2} {f3:Ac s2 s3} {f4:Ac s3 s4} {f5:Ac s4 s5} {f6:Ac s5 s6} (h1:f1.Law) (h2:f2.Law) (h3:f3.Law) (h4:f4.Law) (h5:f5.Law) (h6:f6.Law) :(Ac.comp6 f1 f2 f3 f4 f5 f6).Law:=by
 constructor
 intro x s
 show f6.get (f5.get (f4.get (f3.get (f2.get (f1.get ((Ac.comp6 f1 f2 f3 f4 f5 f6).put x s))))))=x
 show f6.get (f5.get (f4.get (f3.get (f2.get (f1.get ((f1.put (f2.put (f3.put (f4.put (f5.put (f6.put x (f5.get (f4.get (f3.get (f2.get (f1.get s)))))) (f4.get (f3.get (f2.get (f1.get s))))) (f3.get (f2.get (f1.get s)))) (f2.get (f1.get s))) (f1.get s)) s)))))))=x
 rw [h1.same,h2.same,h3.same,h4.same,h5.same,h6.same]
theorem xe {s0 s1 s2 s3 s4 s5 s6:Type} {f1:Ac s0 s1} {f2:Ac s1 s2} {f3:Ac s2 s3} {f4:Ac s3 s4} {f5:Ac s4 s5} {f6:Ac s5 s6} {g1:Ac s0 s1} {g2:Ac s1 s2} {g3:Ac s2 s3} {g4:Ac s3 s4} {g5:Ac s4 s5} {g6:Ac s5 s6} (h:f1.Apart g1) :(Ac.comp6 f1 f2 f3 f4 f5 f6).Apart (Ac.comp6 g1 g2 g3 g4 g5 g6):=by
 constructor
 intro x s
 show g6.get (g5.get (g4.get (g3.get (g2.get (g1.get ((f1.put (f2.put (f3.put (f4.put (f5.put (f6.put x (f5.get (f4.get (f3.get (f2.get (f1.get s)))))) (f4.get (f3.get (f2.get (f1.get s))))) (f3.get (f2.get (f1.get s)))) (f2.get (f1.get s))) (f1.get s)) s)))))))=g6.get (g5.get (g4.get (g3.get (g2.get (g1.get (s))))))
 rw [h.l]
theorem xf {s0 s1 s2 s3 s4 s5 s6:Type} {f1:Ac s0 s1} {f2:Ac s1 s2} {f3:Ac s2 s3} {f4:Ac s3 s4} {f5:Ac s4 s5} {f6:Ac s5 s6} {g2:Ac s1 s2} {g3:Ac s2 s3} {g4:Ac s3 s4} {g5:Ac s4 s5} {g6:Ac s5 s6} (h1:f1.Law) (h:f2.Apart g2) :(Ac.comp6 f1 f2 f3 f4 f5 f6).Apart (Ac.comp6 f1 g2 g3 g4 g5 g6):=by
 constructor
 intro x s
 show g6.get (g5.get (g4.get (g3.get (g2.get (f1.get ((f1.put (f2.put (f3.put (f4.put (f5.put (f6.put x (f5.get (f4.get (f3.get (f2.get (f1.get s)))))) (f4.get (f3.get (f2.get (f1.get s))))) (f3.get (f2.get (f1.get s)))) (f2.get (f1.get s))) (f1.get s)) s)))))))=g6.get (g5.get (g4.get (g3.get (g2.get (f1.get (s))))))
 rw [h1.same,h.l]
theorem xg {s0 s1 s2 s3 s4 s5 s6:Type} {f1:Ac s0 s1} {f2:Ac s1 s2} {f3:Ac s2 s3} {f4:Ac s3 s4} {f5:Ac s4 s5} {f6:Ac s5 s6} {g3:Ac s2 s3} {g4:Ac s3 s4} {g5:Ac s4 s5} {g6:Ac s5 s6} (h1:f1.Law) (h2:f2.Law) (h:f3.Apart g3) :(Ac.comp6 f1 f2 f3 f4 f5 f6).Apart (Ac.comp6 f1 f2 g3 g4 g5 g6):=by
 constructor
 intro x s
 show g6.get (g5.get (g4.get (g3.get (f2.get (f1.get ((f1.put (f2.put (f3.put (f4.put (f5.put (f6.put x (f5.get (f4.get (f3.get (f2.get (f1.get s)))))) (f4.get (f3.get (f2.get (f1.get s))))) (f3.get (f2.get (f1.get s)))) (f2.get (f1.get s))) (f1.get s)) s)))))))=g6.get (g5.get (g4.get (g3.get (f2.get (f1.get (s))))))
 rw [h1.same,h2.same,h.l]
theorem xh {s0 s1 s2 s3 s4 s5 s6:Type} {f1:Ac s0 s1} {f2:Ac s1 s2} {f3:Ac s2 s3} {f4:Ac s3 s4} {f5:Ac s4 s5} {f6:Ac s5 s6} {g4:Ac s3 s4} {g5:Ac s4 s5} {g6:Ac s5 s6} (h1:f1.Law) (h2:f2.Law) (h3:f3.Law) (h:f4.Apart g4) :(Ac.comp6 f1 f2 f3 f4 f5 f6).Apart (Ac.comp6 f1 f2 f3 g4 g5 g6):=by
 constructor
 intro x s
 show g6.get (g5.get (g4.get (f3.get (f2.get (f1.get ((f1.put (f2.put (f3.put (f4.put (f5.put (f6.put x (f5.get (f4.get (f3.get (f2.get (f1.get s)))))) (f4.get (f3.get (f2.get (f1.get s))))) (f3.get (f2.get (f1.get s)))) (f2.get (f1.get s))) (f1.get s)) s)))))))=g6.get (g5.get (g4.get (f3.get (f2.get (f1.get (s))))))
 rw [h1.same,h2.same,h3.same,h.l]
theorem xi {s0 s1 s2 s3 s4 s5 s6:Type} {f1:Ac s0 s1} {f2:Ac s1 s2} {f3:Ac s2 s3} {f4:Ac s3 s4} {f5:Ac s4 s5} {f6:Ac s5 s6} {g5:Ac s4 s5} {g6:Ac s5 s6} (h1:f1.Law) (h2:f2.Law) (h3:f3.Law) (h4:f4.Law) (h:f5.Apart g5) :(Ac.comp6 f1 f2 f3 f4 f5 f6).Apart (Ac.comp6 f1 f2 f3 f4 g5 g6):=by
 constructor
 intro x s
 show g6.get (g5.get (f4.get (f3.get (f2.get (f1.get ((f1.put (f2.put (f3.put (f4.put (f5.put (f6.put x (f5.get (f4.get (f3.get (f2.get (f1.get s)))))) (f4.get (f3.get (f2.get (f1.get s))))) (f3.get (f2.get (f1.get s)))) (f2.get (f1.get s))) (f1.get s)) s)))))))=g6.get (g5.get (f4.get (f3.get (f2.get (f1.get (s))))))
 rw [h1.same,h2.same,h3.same,h4.same,h.l]
theorem xj {s0 s1 s2 s3 s4 s5 s6:Type} {f1:Ac s0 s1} {f2:Ac s1 s2} {f3:Ac s2 s3} {f4:Ac s3 s4} {f5:Ac s4 s5} {f6:Ac s5 s6} {g6:Ac s5 s6} (h1:f1.Law) (h2:f2.Law) (h3:f3.Law) (h4:f4.Law) (h5:f5.Law) (h:f6.Apart g6) :(Ac.comp6 f1 f2 f3 f4 f5 f6).Apart (Ac.comp6 f1 f2 f3 f4 f5 g6):=by
 constructor
 intro x s
 show g6.get (f5.get (f4.get (f3.get (f2.get (f1.get ((f1.put (f2.put (f3.put (f4.put (f5.put (f6.put x (f5.get (f4.get (f3.get (f2.get (f1.get s)))))) (f4.get (f3.get (f2.get (f1.get s))))) (f3.get (f2.get (f1.get s)))) (f2.get (f1.get s))) (f1.get s)) s)))))))=g6.get (f5.get (f4.get (f3.get (f2.get (f1.get (s))))))
 rw [h1.same,h2.same,h3.same,h4.same,h5.same,h.l]
theorem gO {α:Type} (i:Nat) (x:α) (s:T3 α) :(cE i).get ((cE i).put x s)=x:=(Fq (aV _) (aV _) (aV _)).same x s
theorem Dv {α:Type} {i j:Nat} (hi:i<512) (hj:j<512) (h:i≠j) (x:α) (s:T3 α) :(cE j).get ((cE i).put x s) =(cE j).get s:=by
 unfold cE
 by_cases e1:dig i 64=dig j 64
 case neg=>exact (w7 (cH (Nat.mod_lt _ (by decide)) (Nat.mod_lt _ (by decide)) e1)).l x s
 by_cases e2:dig i 8=dig j 8
 case neg=>rw [←e1];exact (w8 (aV _) (cH (Nat.mod_lt _ (by decide)) (Nat.mod_lt _ (by decide)) e2)).l x s
 by_cases e3:dig i 1=dig j 1
 case neg=>rw [←e1,←e2];exact (w9 (aV _) (aV _) (cH (Nat.mod_lt _ (by decide)) (Nat.mod_lt _ (by decide)) e3)).l x s
 exfalso
 have q1:i / 64 % 8=j / 64 % 8:=e1
 have q2:i / 8 % 8=j / 8 % 8:=e2
 have q3:i / 1 % 8=j / 1 % 8:=e3
 omega
theorem E8 {α:Type} (i:Nat) (x:α) (s:T4 α) :(tR i).get ((tR i).put x s)=x:=(Fs (aV _) (aV _) (aV _) (aV _)).same x s
theorem Kg {α:Type} {i j:Nat} (hi:i<4096) (hj:j<4096) (h:i≠j) (x:α) (s:T4 α) :(tR j).get ((tR i).put x s) =(tR j).get s:=by
 unfold tR
 by_cases e1:dig i 512=dig j 512
 case neg=>exact (xa (cH (Nat.mod_lt _ (by decide)) (Nat.mod_lt _ (by decide)) e1)).l x s
 by_cases e2:dig i 64=dig j 64
 case neg=>rw [←e1];exact (xb (aV _) (cH (Nat.mod_lt _ (by decide)) (Nat.mod_lt _ (by decide)) e2)).l x s
 by_cases e3:dig i 8=dig j 8
 case neg=>rw [←e1,←e2];exact (xc (aV _) (aV _) (cH (Nat.mod_lt _ (by decide)) (Nat.mod_lt _ (by decide)) e3)).l x s
 by_cases e4:dig i 1=dig j 1
 case neg=>rw [←e1,←e2,←e3];exact (xd (aV _) (aV _) (aV _) (cH (Nat.mod_lt _ (by decide)) (Nat.mod_lt _ (by decide)) e4)).l x s
 exfalso
 have q1:i / 512 % 8=j / 512 % 8:=e1
 have q2:i / 64 % 8=j / 64 % 8:=e2
 have q3:i / 8 % 8=j / 8 % 8:=e3
 have q4:i / 1 % 8=j / 1 % 8:=e4
 omega
theorem E9 {α:Type} (i:Nat) (x:α) (s:T6 α) :(wX i).get ((wX i).put x s)=x:=(Ft (aV _) (aV _) (aV _) (aV _) (aV _) (aV _)).same x s
theorem Kh {α:Type} {i j:Nat} (hi:i<262144) (hj:j<262144) (h:i≠j) (x:α) (s:T6 α) :(wX j).get ((wX i).put x s) =(wX j).get s:=by
 unfold wX
 by_cases e1:dig i 32768=dig j 32768
 case neg=>exact (xe (cH (Nat.mod_lt _ (by decide)) (Nat.mod_lt _ (by decide)) e1)).l x s
 by_cases e2:dig i 4096=dig j 4096
 case neg=>rw [←e1];exact (xf (aV _) (cH (Nat.mod_lt _ (by decide)) (Nat.mod_lt _ (by decide)) e2)).l x s
 by_cases e3:dig i 512=dig j 512
 case neg=>rw [←e1,←e2];exact (xg (aV _) (aV _) (cH (Nat.mod_lt _ (by decide)) (Nat.mod_lt _ (by decide)) e3)).l x s
 by_cases e4:dig i 64=dig j 64
 case neg=>rw [←e1,←e2,←e3];exact (xh (aV _) (aV _) (aV _) (cH (Nat.mod_lt _ (by decide)) (Nat.mod_lt _ (by decide)) e4)).l x s
 by_cases e5:dig i 8=dig j 8
 case neg=>rw [←e1,←e2,←e3,←e4];exact (xi (aV _) (aV _) (aV _) (aV _) (cH (Nat.mod_lt _ (by decide)) (Nat.mod_lt _ (by decide)) e5)).l x s
 by_cases e6:dig i 1=dig j 1
 case neg=>rw [←e1,←e2,←e3,←e4,←e5];exact (xj (aV _) (aV _) (aV _) (aV _) (aV _) (cH (Nat.mod_lt _ (by decide)) (Nat.mod_lt _ (by decide)) e6)).l x s
 exfalso
 have q1:i / 32768 % 8=j / 32768 % 8:=e1
 have q2:i / 4096 % 8=j / 4096 % 8:=e2
 have q3:i / 512 % 8=j / 512 % 8:=e3
 have q4:i / 64 % 8=j / 64 % 8:=e4
 have q5:i / 8 % 8=j / 8 % 8:=e5
 have q6:i / 1 % 8=j / 1 % 8:=e6
 omega
theorem ku {α:Type} (r:Nat) (x:α) :(d8 r:Ac (N8 α) α).get (C1 x)=x:=by
 unfold d8
 cases Nat.beq r 0
 case true=>rfl
 cases Nat.beq r 1
 case true=>rfl
 cases Nat.beq r 2
 case true=>rfl
 cases Nat.beq r 3
 case true=>rfl
 cases Nat.beq r 4
 case true=>rfl
 cases Nat.beq r 5
 case true=>rfl
 cases Nat.beq r 6
 case true=>rfl
 rfl
theorem GK {α:Type} (i:Nat) (x:α) :(cE i).get (Gd x)=x:=by
 show (d8 _).get ((d8 _).get ((d8 _).get (Gd x)))=x
 unfold Gd
 rw [ku,ku,ku]
theorem GM {α:Type} (i:Nat) (x:α) :(wX i).get (LF x)=x:=by
 show (d8 _).get ((d8 _).get ((d8 _).get ((d8 _).get ((d8 _).get ((d8 _).get (LF x))))))=x
 unfold LF Pz Gd
 rw [ku,ku,ku,ku,ku,ku]
end
end Go.Mir
namespace Go.Mir
open Go.RowKit
noncomputable section
inductive C where
 | int (k:IntKind) (n:Int)
 | kb (b:Bool)
 | ptr (h o:Nat)
 | gp (h v o:Nat)
 | gsl (h v e o l:Nat)
 | oth (v:V)
abbrev CT:=T4 C
inductive W where
 | c (x:C)
 | agg (t:CT) (n:Nat)
inductive U where
 | int (k:IntKind) (n:Int)
 | kb (b:Bool)
 | ptr (h o:Nat)
 | gp (h v o:Nat)
 | gsl (h v e o l:Nat)
 | oth (v:V)
 | agg (t:CT) (n:Nat)
 | tup (l:List W)
inductive Bk where
 | none
 | cells (t:CT) (n:Nat)
 | grow (ver esz:Nat) (t:CT) (n:Nat)
 | mp (es:List (V×V))
abbrev TM:=T3 U
abbrev HP:=T6 Bk
def tm0:TM:=Gd (.oth .any)
def hp0:HP:=LF .none
def ct0:CT:=Pz (.oth .any)
inductive Rv where
 | go (e:Lf) (tm:TM) (hp:HP) (nx:Nat)
 | no (w:List Nat)
inductive Rf where
 | ok (u:U) (hp:HP) (nx:Nat)
 | ex (u:U) (hp:HP) (nx:Nat)
 | no (w:List Nat)
abbrev KR:=TM→HP→Nat→Rv
abbrev eM:=FuncId→List U→HP→Nat→Rf
def C.toV:C→V
 | .int k n=> .int k n
 | .kb b=> .kb b
 | .ptr h o=> .ptr h o
 | .gp h v o=> .gp h v o
 | .gsl h v e o l=> .gsl h v e o l
 | .oth v=>v
def cf (t:CT) (i:Nat):C:=Ac.rec (motive:=fun _=>CT→C) (fun g _=>g) (tR i) t
def dS (t:CT) (i:Nat) (x:C):CT:=Ac.rec (motive:=fun _=>C→CT→CT) (fun _ p=>p) (tR i) x t
def K5:Nat:=4096
def K4:Nat:=262144
def yU (h:Nat):Ac HP Bk:=Bool.rec (motive:=fun _=>Ac HP Bk) ⟨fun _=> .none,fun _ s=>s⟩ (wX h) (Nat.ble (Nat.succ h) 262144)
def bd (hp:HP) (h:Nat):Bk:=Ac.rec (motive:=fun _=>HP→Bk) (fun g _=>g) (yU h) hp
def dy (hp:HP) (h:Nat) (b:Bk):HP:=Ac.rec (motive:=fun _=>Bk→HP→HP) (fun _ p=>p) (yU h) b hp
def tJ (t:CT):Nat→Nat→List V
 | 0,_=> []
 | n+1,i=>(cf t i).toV::tJ t n (i+1)
def toL (t:CT) (n:Nat):List V:=tJ t n 0
def Fk (v:V):C:=match v with
 | .int k n=> .int k n
 | .kb b=> .kb b
 | .ptr h o=> .ptr h o
 | .gp h v o=> .gp h v o
 | .gsl h v e o l=> .gsl h v e o l
 | v=> .oth v
def Pc:List V→Nat→CT→CT:=List.rec (motive:=fun _=>Nat→CT→CT) (fun _ t=>t) (fun v _ ih i t=>ih (Nat.succ i) (dS t i (Fk v)))
def ofL (l:List V):CT:=Pc l 0 ct0
def W.toV:W→V
 | .c x=>x.toV
 | .agg t n=> .agg (toL t n)
def U.toV:U→V
 | .int k n=> .int k n
 | .kb b=> .kb b
 | .ptr h o=> .ptr h o
 | .gp h v o=> .gp h v o
 | .gsl h v e o l=> .gsl h v e o l
 | .oth v=>v
 | .agg t n=> .agg (toL t n)
 | .tup l=> .tup (l.map W.toV)
def Bk.toB:Bk→Option Blk
 | .none=>Option.none
 | .cells t n=>some (.cells (toL t n))
 | .grow v e t n=>some (.grow v e (toL t n))
 | .mp es=>some (.mp es)
def V.isOne (v:V):Bool:=
 V.rec (motive_1:=fun _=>Bool) (motive_2:=fun _=>Unit) false (fun _ _=>true) (fun _=>true) (fun _=>true) (fun q p=>false) (fun _=>true) true (fun _ _=>true) (fun _ _ _ _=>true) (fun _ _ _ _=>true) true true (fun _ _=>true) (fun _ _=>true) (fun _ _ _ _ _=>true) (fun _ _ _=>true) (fun _=>true) (fun _ _=>true) true true (fun _ _ _=>true) (fun cs ih=>false) (fun cs ih=>false) () (fun _ _ _ _=>()) v
def BK (l:List V):Bool:=List.rec (motive:=fun _=>Bool) true (fun v _ ih=>Bool.rec false ih v.isOne) l
def gj (l:List V):Bool:=Bool.rec false (Nat.ble l.length K5) (BK l)
def ko (v:V):U:=match v with
 | .int k n=> .int k n
 | .kb b=> .kb b
 | .bool b=> .kb b
 | .ptr h o=> .ptr h o
 | .gp h v o=> .gp h v o
 | .gsl h v e o l=> .gsl h v e o l
 | .agg cs=>Bool.rec (.oth .any) (.agg (ofL cs) cs.length) (gj cs)
 | .tup vs=> .tup (vs.map fun v=>match v with
  | .agg cs=>Bool.rec (.c (.oth .any)) (.agg (ofL cs) cs.length) (gj cs)
  | .bool b=> .c (.kb b)
  | v=> .c (Fk v))
 | v=> .oth v
def cU:C→U:=C.rec (motive:=fun _=>U) .int .kb .ptr .gp .gsl .oth
def wU:W→U:=W.rec (motive:=fun _=>U) cU .agg
def BA:U→(IntKind→Int→Rv)→Rv→Rv:=U.rec (motive:=fun _=>(IntKind→Int→Rv)→Rv→Rv) (fun k n f sl=>f k n) (fun _ _ sl=>sl) (fun _ _ _ sl=>sl) (fun _ _ _ _ sl=>sl) (fun _ _ _ _ _ _ sl=>sl) (fun _ _ sl=>sl) (fun _ _ _ sl=>sl) (fun _ _ sl=>sl)
def uKb:U→(Bool→Rv)→Rv→Rv:=U.rec (motive:=fun _=>(Bool→Rv)→Rv→Rv) (fun _ _ _ sl=>sl) (fun b f sl=>f b) (fun _ _ _ sl=>sl) (fun _ _ _ _ sl=>sl) (fun _ _ _ _ _ _ sl=>sl) (fun _ _ sl=>sl) (fun _ _ _ sl=>sl) (fun _ _ sl=>sl)
def Ds:U→(Nat→Nat→Rv)→(Nat→Nat→Nat→Rv)→Rv→Rv:=U.rec (motive:=fun _=>(Nat→Nat→Rv)→(Nat→Nat→Nat→Rv)→Rv→Rv) (fun _ _ _ _ sl=>sl) (fun _ _ _ sl=>sl) (fun h o f g sl=>f h o) (fun h v o f g sl=>g h v o) (fun _ _ _ _ _ _ _ sl=>sl) (fun _ _ _ sl=>sl) (fun _ _ _ _ sl=>sl) (fun _ _ _ sl=>sl)
def Qs:U→(Nat→Nat→Nat→Nat→Nat→Rv)→Rv→Rv:=U.rec (motive:=fun _=>(Nat→Nat→Nat→Nat→Nat→Rv)→Rv→Rv) (fun _ _ _ sl=>sl) (fun _ _ sl=>sl) (fun _ _ _ sl=>sl) (fun _ _ _ _ sl=>sl) (fun h v e o l f sl=>f h v e o l) (fun _ _ sl=>sl) (fun _ _ _ sl=>sl) (fun _ _ sl=>sl)
def SL (v:V) (a b sl:Rv):Rv:=match v with
 | .nilsl=>a
 | .esl=>b
 | _=>sl
def uSl:U→Rv→Rv→(Nat→Nat→Nat→Nat→Nat→Rv)→Rv→Rv:=U.rec (motive:=fun _=>Rv→Rv→(Nat→Nat→Nat→Nat→Nat→Rv)→Rv→Rv) (fun _ _ _ _ _ sl=>sl) (fun _ _ _ _ sl=>sl) (fun _ _ _ _ _ sl=>sl) (fun _ _ _ _ _ _ sl=>sl) (fun h v e o l a b f sl=>f h v e o l) (fun v a b f sl=>SL v a b sl) (fun _ _ _ _ _ sl=>sl) (fun _ _ _ _ sl=>sl)
def vFn (v:V) (k:FuncId→List V→Rv) (sl:Rv):Rv:=match v with
 | .fn f cs=>k f cs
 | _=>sl
def uFn:U→(FuncId→List V→Rv)→Rv→Rv:=U.rec (motive:=fun _=>(FuncId→List V→Rv)→Rv→Rv) (fun _ _ _ sl=>sl) (fun _ _ sl=>sl) (fun _ _ _ sl=>sl) (fun _ _ _ _ sl=>sl) (fun _ _ _ _ _ _ sl=>sl) (fun v f sl=>vFn v f sl) (fun _ _ _ sl=>sl) (fun _ _ sl=>sl)
def LX (v:V) (k sl:Rv):Rv:=Bool.rec (motive:=fun _=>Rv) sl k v.isOne
def uC:U→(C→Rv)→Rv→Rv:=U.rec (motive:=fun _=>(C→Rv)→Rv→Rv) (fun k n f sl=>f (.int k n)) (fun b f sl=>f (.kb b)) (fun h o f sl=>f (.ptr h o)) (fun h v o f sl=>f (.gp h v o)) (fun h v e o l f sl=>f (.gsl h v e o l)) (fun v f sl=>LX v (f (.oth v)) sl) (fun _ _ _ sl=>sl) (fun _ _ sl=>sl)
def LW:U→(CT→Nat→Rv)→Rv→Rv:=U.rec (motive:=fun _=>(CT→Nat→Rv)→Rv→Rv) (fun _ _ _ sl=>sl) (fun _ _ sl=>sl) (fun _ _ _ sl=>sl) (fun _ _ _ _ sl=>sl) (fun _ _ _ _ _ _ sl=>sl) (fun _ _ sl=>sl) (fun t n f sl=>f t n) (fun _ _ sl=>sl)
def R3:U→(List W→Rv)→Rv→Rv:=U.rec (motive:=fun _=>(List W→Rv)→Rv→Rv) (fun _ _ _ sl=>sl) (fun _ _ sl=>sl) (fun _ _ _ sl=>sl) (fun _ _ _ _ sl=>sl) (fun _ _ _ _ _ _ sl=>sl) (fun _ _ sl=>sl) (fun _ _ _ sl=>sl) (fun l f sl=>f l)
def uCA:U→(C→Rv)→(CT→Nat→Rv)→Rv→Rv:=U.rec (motive:=fun _=>(C→Rv)→(CT→Nat→Rv)→Rv→Rv) (fun k n f g sl=>f (.int k n)) (fun b f g sl=>f (.kb b)) (fun h o f g sl=>f (.ptr h o)) (fun h v o f g sl=>f (.gp h v o)) (fun h v e o l f g sl=>f (.gsl h v e o l)) (fun v f g sl=>LX v (f (.oth v)) sl) (fun t n f g sl=>g t n) (fun _ _ _ sl=>sl)
def RW:U→Rv→Rv→Rv→Rv:=U.rec (motive:=fun _=>Rv→Rv→Rv→Rv) (fun _ _ _ _ sl=>sl) (fun b y n _=>Bool.rec (motive:=fun _=>Rv) n y b) (fun _ _ _ _ sl=>sl) (fun _ _ _ _ _ sl=>sl) (fun _ _ _ _ _ _ _ sl=>sl) (fun _ _ _ sl=>sl) (fun _ _ _ _ sl=>sl) (fun l _ n sl=>List.rec (motive:=fun _=>Rv) n (fun _ _ _=>sl) l)
def RU:U→Rv→Rv→Rv→Rv:=U.rec (motive:=fun _=>Rv→Rv→Rv→Rv) (fun _ _ _ _ sl=>sl) (fun b y n _=>Bool.rec (motive:=fun _=>Rv) y n b) (fun _ _ _ _ sl=>sl) (fun _ _ _ _ _ sl=>sl) (fun _ _ _ _ _ _ _ sl=>sl) (fun _ _ _ sl=>sl) (fun _ _ _ _ sl=>sl) (fun l _ n sl=>List.rec (motive:=fun _=>Rv) n (fun _ _ _=>sl) l)
def ckR (b:Bool) (r sl:Rv):Rv:=Bool.rec (motive:=fun _=>Rv) sl r b
def bkC:Bk→(CT→Nat→Rv)→Rv→Rv:=Bk.rec (motive:=fun _=>(CT→Nat→Rv)→Rv→Rv) (fun _ sl=>sl) (fun t n k _=>k t n) (fun _ _ _ _ _ sl=>sl) (fun _ _ sl=>sl)
def bkG:Bk→(Nat→Nat→CT→Nat→Rv)→Rv→Rv:=Bk.rec (motive:=fun _=>(Nat→Nat→CT→Nat→Rv)→Rv→Rv) (fun _ sl=>sl) (fun _ _ _ sl=>sl) (fun v e t n k _=>k v e t n) (fun _ _ sl=>sl)
def bQ (n:Nat) :(Nat→Rv)→Rv:=Nat.rec (motive:=fun _=>(Nat→Rv)→Rv) (fun k=>k 0) (fun n _ k=>k (Nat.succ n)) n
def Jh:Int→(Nat→Rv)→Rv→Rv:=Int.rec (motive:=fun _=>(Nat→Rv)→Rv→Rv) (fun n k _=>k n) (fun _ _ sl=>sl)
def oZ (dst:CT) (d:Nat) (src:CT) (s n:Nat):CT:=Nat.rec (motive:=fun _=>CT) dst (fun i acc=>dS acc (Nat.add d i) (cf src (Nat.add s i))) n
inductive TI where
 | no
 | one
 | agg (n:Nat)
def tyI (tb:Tbl) (t:TypeId):TI:=match tb t with
 | some td=>if td.kind.agg then .agg td.size else if td.size=1 then .one else .no
 | none=> .no
def KG (tb:Tbl) (t:TypeId) (f:Nat):Option Nat:=match tb t with
 | some td=>match td.kind with
  | .struct fs=>match fs[f]? with
   | some (o,ft)=>match tb ft with
    | some tf=>if tf.size=0 then none else some o
    | none=>none
   | none=>none
  | _=>none
 | none=>none
inductive FVI where
 | no
 | at (o:Nat) (i:TI)
def Og (tb:Tbl) (t:TypeId) (f:Nat):FVI:=match tb t with
 | some td=>match td.kind with
  | .struct fs=>match fs[f]? with
   | some (o,ft)=> .at o (tyI tb ft)
   | none=> .no
  | _=> .no
 | none=> .no
inductive IXI where
 | no
 | sl (esz:Nat)
 | ar (len esz:Nat)
def KQ (tb:Tbl) (t:TypeId):IXI:=match tb t with
 | some td=>match td.kind with
  | .slice e=>match tb e with|some te=> .sl te.size|none=> .no
  | .arr len e=>match tb e with|some te=> .ar len te.size|none=> .no
  | _=> .no
 | none=> .no
inductive IVI where
 | no
 | at (len esz:Nat) (i:TI)
def Ov (tb:Tbl) (t:TypeId):IVI:=match tb t with
 | some td=>match td.kind with
  | .arr len e=>match tb e with|some te=> .at len te.size (tyI tb e)|none=> .no
  | _=> .no
 | none=> .no
inductive ZTI where
 | no
 | at (t:CT) (n:Nat)
def wP (tb:Tbl) (t:TypeId):ZTI:=match tb t with
 | some td=>bif gj td.zero then .at (ofL td.zero) td.zero.length else .no
 | none=> .no
def cvI (tb:Tbl) (s d:TypeId):Option IntKind:=match tb s,tb d with
 | some ts,some td=>match ts.kind,td.kind with
  | .int _,.int k=>some k
  | _,_=>none
 | _,_=>none
inductive PI where
 | no
 | at (o size:Nat)
def Jf (tb:Tbl) (t:TypeId) (i:Nat):PI:=match tb t with
 | some td=>match td.kind with
  | .struct fs=>match fs[i]? with
   | some (o,ft)=>match tb ft with
    | some tf=> .at o tf.size
    | none=> .no
   | none=> .no
  | .arr _ e=>match tb e with
   | some te=> .at (i*te.size) te.size
   | none=> .no
  | _=> .no
 | none=> .no
def w4 (tb:Tbl) (t:TypeId):Bool:=match tb t with
 | some td=>match td.kind with
  | .struct fs=>fs.all fun q=>(tb q.2).isSome
  | .arr _ e=>(tb e).isSome
  | _=>false
 | none=>false
inductive SLI where
 | no
 | at (esz:Nat) (t:CT) (n:Nat)
def NP (tb:Tbl) (t:TypeId) (n:Nat):SLI:=match tb t with
 | some td=>match td.kind with
  | .slice e=>match tb e with
   | some te=>if te.ty.isNone=true∧n≤1000∧te.size≤1000∧te.zero.length=te.size∧gj (mX te.zero n)=true then .at te.size (ofL (mX te.zero n)) (n*te.size) else .no
   | none=> .no
  | _=> .no
 | none=> .no
inductive API where
 | no
 | at (esz bytes:Nat)
def NJ (tb:Tbl) (c:Call):API:=match c.argTypes.toList with
 | [t,t2]=>match tb t,tb t2 with
  | some td,some td2=>match td.kind with
   | .slice e=>match tb e with
    | some te=>if (jm tb td2).isSome=true∧te.ty.isNone=true∧0<te.bytes∧te.bytes≤1000∧te.zero.length=te.size then .at te.size te.bytes else .no
    | none=> .no
   | _=> .no
  | _,_=> .no
 | _=> .no
def HS (tb:Tbl) (c:Call):Bool:=match c.argTypes.toList with
 | [t]=>match tb t with
  | some td=>HR td.kind
  | none=>false
 | _=>false
def Qq (tb:Tbl) (t:TypeId):Bool:=match tb t with
 | some _=>true
 | none=>false
def PK (tb:Tbl) (t:TypeId):Option Nat:=match tb t with
 | some td=>jm tb td
 | none=>none
def mxK (k:IntKind):Nat:=IntKind.rec (motive:=fun _=>Nat) 127 32767 2147483647 9223372036854775807 255 65535 4294967295 18446744073709551615 k
def ikN (k:IntKind):Nat:=IntKind.rec (motive:=fun _=>Nat) 0 1 2 3 4 5 6 7 k
def Oo (k k':IntKind):Bool:=Nat.beq (ikN k) (ikN k')
def Pa (a b:Int) (f:Nat→Nat→Int) (g:Int):Int:=Int.rec (motive:=fun _=>Int) (fun x=>Int.rec (motive:=fun _=>Int) (fun y=>f x y) (fun _=>g) b) (fun _=>g) a
def O9 (a b:Int) (f:Nat→Nat→Bool) (g:Bool):Bool:=Int.rec (motive:=fun _=>Bool) (fun x=>Int.rec (motive:=fun _=>Bool) (fun y=>f x y) (fun _=>g) b) (fun _=>g) a
def Pb (a b:Int) (f:Nat→Nat→Rv) (g:Rv):Rv:=Int.rec (motive:=fun _=>Rv) (fun x=>Int.rec (motive:=fun _=>Rv) (fun y=>f x y) (fun _=>g) b) (fun _=>g) a
def xF (k:IntKind) (n:Nat) (s:Int):Int:=Bool.rec (motive:=fun _=>Int) s (.ofNat n) (Nat.ble n (mxK k))
def fj (k:IntKind) (a b:Int):Int:=Pa a b (fun x y=>xF k (Nat.add x y) (k.wrap (a+b))) (k.wrap (a+b))
def Qm (k:IntKind) (a b:Int):Int:=Pa a b (fun x y=>Bool.rec (motive:=fun _=>Int) (k.wrap (a - b)) (xF k (Nat.sub x y) (k.wrap (a - b))) (Nat.ble y x)) (k.wrap (a - b))
def O6 (k:IntKind) (a b:Int):Int:=Pa a b (fun x y=>xF k (Nat.mul x y) (k.wrap (a*b))) (k.wrap (a*b))
def cvS (k:IntKind) (a:Int):Int:=Int.rec (motive:=fun _=>Int) (fun x=>xF k x (k.wrap a)) (fun _=>k.wrap a) a
def eqS (a b:Int):Bool:=O9 a b (fun x y=>Nat.beq x y) (a==b)
def ltS (a b:Int):Bool:=O9 a b (fun x y=>Nat.ble (Nat.succ x) y) (decide (a<b))
def leS (a b:Int):Bool:=O9 a b (fun x y=>Nat.ble x y) (decide (a≤b))
def FZ (b:Bool):Bool:=Bool.rec (motive:=fun _=>Bool) true false b
def QP (ik:IntKind) (a b:Int) (k:U→Rv) (_:Rv):Rv:=k (.int ik (fj ik a b))
def QT (ik:IntKind) (a b:Int) (k:U→Rv) (_:Rv):Rv:=k (.int ik (Qm ik a b))
def QQ (ik:IntKind) (a b:Int) (k:U→Rv) (_:Rv):Rv:=k (.int ik (O6 ik a b))
def QR (ik:IntKind) (a b:Int) (k:U→Rv) (sl:Rv):Rv:=Pb a b (fun x y=>ckR (Nat.ble 1 y) (k (.int ik (xF ik (Nat.div x y) (ik.wrap (a.tdiv b))))) sl) sl
def QS (ik:IntKind) (a b:Int) (k:U→Rv) (sl:Rv):Rv:=Pb a b (fun x y=>ckR (Nat.ble 1 y) (k (.int ik (.ofNat (Nat.mod x y)))) sl) sl
def fEq (_:IntKind) (a b:Int) (k:U→Rv) (_:Rv):Rv:=k (.kb (eqS a b))
def fNe (_:IntKind) (a b:Int) (k:U→Rv) (_:Rv):Rv:=k (.kb (FZ (eqS a b)))
def fLt (_:IntKind) (a b:Int) (k:U→Rv) (_:Rv):Rv:=k (.kb (ltS a b))
def fLe (_:IntKind) (a b:Int) (k:U→Rv) (_:Rv):Rv:=k (.kb (leS a b))
def fGt (_:IntKind) (a b:Int) (k:U→Rv) (_:Rv):Rv:=k (.kb (ltS b a))
def fGe (_:IntKind) (a b:Int) (k:U→Rv) (_:Rv):Rv:=k (.kb (leS b a))
def FX (m:Nat) (hp:HP) (b:Bk) (u:U) (k:U→HP→Rv) (sl:Rv):Rv:=ckR (Nat.ble (Nat.succ m) K4) (k u (dy hp m b)) sl
def Sf (x:U) (hp:HP) (m:Nat) (k:U→HP→Rv) (sl:Rv):Rv:=uCA x (fun c=>FX m hp (.cells (dS ct0 0 c) 1) (.ptr m 0) k sl) (fun t n=>FX m hp (.cells t n) (.ptr m 0) k sl) sl
abbrev LdF:=CT→Nat→Nat→(U→Rv)→Rv→Rv
def Ah:LdF:=fun ct n off k sl=>ckR (Nat.ble (Nat.succ off) n) (k (cU (cf ct off))) sl
def Ag (m:Nat):LdF:=fun ct n off k sl=>ckR (Nat.ble (Nat.add off m) n) (Bool.rec (motive:=fun _=>Rv) (k (.agg (oZ ct0 0 ct off m) m)) (k (.agg ct n)) (Nat.beq m n)) sl
def ldG (ld:LdF) (a:U) (hp:HP) (k:U→Rv) (sl:Rv):Rv:=Ds a (fun h o=>bkC (bd hp h) (fun ct n=>ld ct n o k sl) sl) (fun h v o=>bkG (bd hp h) (fun v' _ ct n=>ckR (Nat.beq v v') (ld ct n o k sl) sl) sl) sl
abbrev StF:=U→CT→Nat→Nat→(CT→Rv)→Rv→Rv
def MY:StF:=fun x ct n off k sl=>ckR (Nat.ble (Nat.succ off) n) (uC x (fun c=>k (dS ct off c)) sl) sl
def MX (m:Nat):StF:=fun x ct n off k sl=>LW x (fun xt m'=>ckR (Nat.beq m m') (ckR (Nat.ble (Nat.add off m) n) (Bool.rec (motive:=fun _=>Rv) (k (oZ ct off xt 0 m)) (k xt) (Nat.beq m n)) sl) sl) sl
def stG (st:StF) (a x:U) (hp:HP) (k:U→HP→Rv) (sl:Rv):Rv:=Ds a (fun h o=>bkC (bd hp h) (fun ct n=>st x ct n o (fun ct=>k (.tup []) (dy hp h (.cells ct n))) sl) sl) (fun h v o=>bkG (bd hp h) (fun v' e ct n=>ckR (Nat.beq v v') (st x ct n o (fun ct=>k (.tup []) (dy hp h (.grow v e ct n))) sl) sl) sl) sl
def faG (d:Nat) (x:U) (k:U→Rv) (sl:Rv):Rv:=Ds x (fun h o=>k (.ptr h (Nat.add o d))) (fun h v o=>k (.gp h v (Nat.add o d))) sl
def fvG (o:Nat) (ld:LdF) (x:U) (k:U→Rv) (sl:Rv):Rv:=LW x (fun ct n=>ld ct n o k sl) sl
def Sv (esz:Nat) (x i:U) (hp:HP) (k:U→Rv) (sl:Rv):Rv:=BA i (fun _ n=>Jh n (fun m=>Qs x (fun h v e o l=>ckR (Nat.ble (Nat.succ m) l) (bkG (bd hp h) (fun v' e' _ _=>ckR (Nat.beq v v') (ckR (Nat.beq esz e) (ckR (Nat.beq e e') (k (.gp h v (Nat.mul (Nat.add o m) e))) sl) sl) sl) sl) sl) sl) sl) sl
def Su (l esz:Nat) (x i:U) (k:U→Rv) (sl:Rv):Rv:=BA i (fun _ n=>Jh n (fun m=>ckR (Nat.ble (Nat.succ m) l) (Ds x (fun h o=>k (.ptr h (Nat.add o (Nat.mul m esz)))) (fun h v o=>k (.gp h v (Nat.add o (Nat.mul m esz)))) sl) sl) sl) sl
def ixV (l esz:Nat) (ld:LdF) (x i:U) (k:U→Rv) (sl:Rv):Rv:=BA i (fun _ n=>Jh n (fun m=>ckR (Nat.ble (Nat.succ m) l) (LW x (fun ct n=>ld ct n (Nat.mul m esz) k sl) sl) sl) sl) sl
abbrev E7:=IntKind→Int→Int→(U→Rv)→Rv→Rv
def Kk (f:E7) (x y:U) (k:U→Rv) (sl:Rv):Rv:=BA x (fun ik a=>BA y (fun ik' b=>ckR (Oo ik ik') (f ik a b k sl) sl) sl) sl
def SB (x:U) (k:U→Rv) (sl:Rv):Rv:=uKb x (fun b=>k (.kb (FZ b))) sl
def cvG (ik:IntKind) (x:U) (k:U→Rv) (sl:Rv):Rv:=BA x (fun _ n=>k (.int ik (cvS ik n))) sl
def Ri (i:Nat):List W→(U→Rv)→Rv→Rv:=Nat.rec (motive:=fun _=>List W→(U→Rv)→Rv→Rv) (List.rec (motive:=fun _=>(U→Rv)→Rv→Rv) (fun _ sl=>sl) fun w _ _ k _=>k (wU w)) (fun _ ih=>List.rec (motive:=fun _=>(U→Rv)→Rv→Rv) (fun _ sl=>sl) fun _ r _=>ih r) i
def exG (i:Nat) (x:U) (k:U→Rv) (sl:Rv):Rv:=R3 x (fun l=>Ri i l k sl) sl
def Sz (x:U) (k:U→Rv) (sl:Rv):Rv:=Ds x (fun h o=>k (.ptr h o)) (fun h v o=>k (.gp h v o)) sl
def Rr (c a b:U) (k:U→Rv) (sl:Rv):Rv:=uKb c (fun p=>k (Bool.rec (motive:=fun _=>U) b a p)) sl
def NN (x:Option Operand) (d:Nat) (ev:Operand→U) (k:Nat→Rv) (sl:Rv):Rv:=Option.rec (motive:=fun _=>Rv) (k d) (fun x=>BA (ev x) (fun _ n=>Jh n k sl) sl) x
def SJ (esz:Nat) (x:U) (lo hi:Option Operand) (ev:Operand→U) (hp:HP) (k:U→Rv) (sl:Rv):Rv:=Qs x (fun h v e o l=>bkG (bd hp h) (fun v' e' _ _=>ckR (Nat.beq v v') (ckR (Nat.beq esz e) (ckR (Nat.beq e e') (NN lo 0 ev (fun a=>NN hi l ev (fun b=>ckR (Nat.ble b l) (ckR (Nat.ble (Nat.succ a) b) (k (.gsl h v e (Nat.add o a) (Nat.sub b a))) sl) sl) sl) sl) sl) sl) sl) sl) sl
def Sx (x:U) (hp:HP) (k:U→Rv) (sl:Rv):Rv:=uSl x (k (.int .i64 (.ofNat 0))) (k (.int .i64 (.ofNat 0))) (fun h v e _ l=>bkG (bd hp h) (fun v' e' _ _=>ckR (Nat.beq v v') (ckR (Nat.beq e e') (ckR (Nat.ble l au) (k (.int .i64 (.ofNat l))) sl) sl) sl) sl) sl
def gcG (hp:HP) (esz:Nat) (u:U) (k:Nat→CT→Nat→Rv) (sl:Rv):Rv:=uSl u (k 0 ct0 0) (k 0 ct0 0) (fun h v e o l=>bkG (bd hp h) (fun v' e' t n=>ckR (Nat.beq v v') (ckR (Nat.beq e esz) (ckR (Nat.beq e' esz) (ckR (Nat.ble (Nat.mul (Nat.add o l) esz) n) (k l t (Nat.mul o esz)) sl) sl) sl) sl) sl) sl
def GQ (esz bytes:Nat) (hp:HP) (m n:Nat) (xt:CT) (xo:Nat) (k:U→HP→Rv) (sl:Rv):Rv:=ckR (Nat.ble (Nat.mul n bytes) 70368744177664) (ckR (Nat.ble (Nat.mul n esz) K5) (FX m hp (.grow m esz (oZ ct0 0 xt xo (Nat.mul n esz)) (Nat.mul n esz)) (.gsl m m esz 0 n) k sl) sl) sl
def apX (esz bytes:Nat) (hp:HP) (m:Nat) (s:U) (c:Nat) (xt:CT) (xo:Nat) (k:U→HP→Rv) (sl:Rv):Rv:=
 Nat.rec (motive:=fun _=>Rv) (uSl s (k s hp) (k s hp) (fun h v e _ _=>bkG (bd hp h) (fun v' e' _ _=>ckR (Nat.beq v v') (ckR (Nat.beq e e') (k s hp) sl) sl) sl) sl)
  (fun c _=>uSl s (GQ esz bytes hp m (Nat.succ c) xt xo k sl) (GQ esz bytes hp m (Nat.succ c) xt xo k sl)
   (fun h v e o l=>bkG (bd hp h) (fun v' e' t n=>ckR (Nat.beq v v') (ckR (Nat.beq e esz) (ckR (Nat.beq e' esz) (ckR (Nat.beq o 0) (ckR (Nat.beq (Nat.mul l esz) n) (ckR (Nat.ble (Nat.mul (Nat.add l (Nat.succ c)) bytes) 70368744177664) (ckR (Nat.ble (Nat.add n (Nat.mul (Nat.succ c) esz)) K5)
    (k (.gsl h m esz 0 (Nat.add l (Nat.succ c))) (dy hp h (.grow m esz (oZ t n xt xo (Nat.mul (Nat.succ c) esz)) (Nat.add n (Nat.mul (Nat.succ c) esz))))) sl) sl) sl) sl) sl) sl) sl) sl) sl)
  c
def apG (esz bytes:Nat) (s x:U) (hp:HP) (nx:Nat) (k:U→HP→Rv) (sl:Rv):Rv:=gcG hp esz x (fun c xt xo=>bQ nx fun m=>apX esz bytes hp m s c xt xo k sl) sl
def DB (l:List Operand) (ev:Operand→U):List V:=List.rec (motive:=fun _=>List V) [] (fun x _ ih=>(ev x).toV::ih) l
structure En where
 e0:Nat
 e1:Nat
 e2:Nat
 e3:Nat
def en0:En:=⟨0,0,0,0⟩
abbrev Gt:=U→U→U→U→TM→U
def isK (K i:Nat):Bool:=Bool.rec (motive:=fun _=>Bool) false (Nat.beq (Nat.mod (Nat.shiftRight K i) 2) 1) (Nat.ble (Nat.succ i) 512)
def u0:U:= .oth .any
def dB (K:Nat) (e:En) (i:Nat):Gt:=
 Bool.rec (motive:=fun _=>Gt) (Bool.rec (motive:=fun _=>Gt) (Bool.rec (motive:=fun _=>Gt) (Bool.rec (motive:=fun _=>Gt) (Bool.rec (motive:=fun _=>Gt) (fun _ _ _ _ _=>u0) (Ac.rec (motive:=fun _=>Gt) (fun g _=>fun _ _ _ _ tm=>g tm) (cE i)) (isK K i))
  (fun _ _ _ r _=>r) (Nat.beq e.e3 (Nat.succ i))) (fun _ _ r _ _=>r) (Nat.beq e.e2 (Nat.succ i))) (fun _ r _ _ _=>r) (Nat.beq e.e1 (Nat.succ i))) (fun r _ _ _ _=>r) (Nat.beq e.e0 (Nat.succ i))
def rdS (K:Nat) (e:En) (x:Operand):Gt:=Operand.rec (motive:=fun _=>Gt) (fun i=>dB K e i) (fun v _ _ _ _ _=>ko (cv v)) (fun _ _ _ _ _ _=>u0) (fun f _ _ _ _ _=> .oth (.fn f [])) x
def GR (l:List Gt):U→U→U→U→TM→List V→List U:=List.rec (motive:=fun _=>U→U→U→U→TM→List V→List U) (fun _ _ _ _ _ cs=>cs.map ko) (fun g _ ih a b c d tm cs=>g a b c d tm::ih a b c d tm cs) l
def Si (l:List Gt) (f a b c d:U) (tm:TM) (k:FuncId→List U→Rv) (sl:Rv):Rv:=uFn f (fun g cs=>ckR (bZ cs) (k g (GR l a b c d tm cs)) sl) sl
inductive PG where
 | at (o s:Nat) (g:Gt)
def Ht (a b c d:U) (tm:TM) (n:Nat) (l:List PG):CT→(CT→Rv)→Rv→Rv:=List.rec (motive:=fun _=>CT→(CT→Rv)→Rv→Rv) (fun t k _=>k t)
 (fun q _ ih t k sl=>PG.rec (motive:=fun _=>Rv) (fun o s g=>ckR (Nat.ble (Nat.add o s) n) (uCA (g a b c d tm) (fun x=>ckR (Nat.beq s 1) (ih (dS t o x) k sl) sl) (fun xt m=>ckR (Nat.beq s m) (ih (oZ t o xt 0 m) k sl) sl) sl) sl) q) l
def Sg (esz n:Nat) (z:CT) (len:Nat) (a b c d:U) (tm:TM) (l:List PG) (hp:HP) (nx:Nat) (k:U→HP→Rv) (sl:Rv):Rv:=Ht a b c d tm len l z (fun t=>bQ nx fun m=>FX m hp (.grow m esz t len) (.gsl m m esz 0 n) k sl) sl
abbrev VaF:=U→U→U→U→TM→HP→Nat→(U→Rv)→Rv→Rv
abbrev MeF:=U→U→U→U→TM→HP→Nat→(U→HP→Rv)→Rv→Rv
abbrev CaF:=U→U→U→U→TM→(FuncId→List U→Rv)→Rv→Rv
inductive Stp where
 | slow
 | val (f:VaF)
 | mem (f:MeF)
 | cal (f:CaF)
def HF (K:Nat) (e:En) (i:Nat) (k:Gt→Stp):Stp:=
 Bool.rec (motive:=fun _=>Stp) (Bool.rec (motive:=fun _=>Stp) (Bool.rec (motive:=fun _=>Stp) (Bool.rec (motive:=fun _=>Stp) (Bool.rec (motive:=fun _=>Stp) (k fun _ _ _ _ _=>u0) (Ac.rec (motive:=fun _=>Stp) (fun g _=>k fun _ _ _ _ tm=>g tm) (cE i)) (isK K i))
  (k fun _ _ _ r _=>r) (Nat.beq e.e3 (Nat.succ i))) (k fun _ _ r _ _=>r) (Nat.beq e.e2 (Nat.succ i))) (k fun _ r _ _ _=>r) (Nat.beq e.e1 (Nat.succ i))) (k fun r _ _ _ _=>r) (Nat.beq e.e0 (Nat.succ i))
def dD (K:Nat) (e:En) (x:Operand) (k:Gt→Stp):Stp:=Operand.rec (motive:=fun _=>Stp) (fun i=>HF K e i k) (fun v=>U.rec (motive:=fun _=>Stp) (fun ik n=>k fun _ _ _ _ _=> .int ik n) (fun b=>k fun _ _ _ _ _=> .kb b) (fun h o=>k fun _ _ _ _ _=> .ptr h o) (fun h v o=>k fun _ _ _ _ _=> .gp h v o) (fun h v e o l=>k fun _ _ _ _ _=> .gsl h v e o l) (fun v=>k fun _ _ _ _ _=> .oth v) (fun t n=>k fun _ _ _ _ _=> .agg t n) (fun l=>k fun _ _ _ _ _=> .tup l) (ko (cv v))) (fun _=>k fun _ _ _ _ _=>u0) (fun f=>k fun _ _ _ _ _=> .oth (.fn f [])) x
def Mn (K:Nat) (e:En) (l:List Operand) :(List Gt→Stp)→Stp:=List.rec (motive:=fun _=>(List Gt→Stp)→Stp) (fun k=>k []) (fun x _ ih k=>dD K e x fun g=>ih fun gs=>k (g::gs)) l
def yf (K:Nat) (e:En) (pi:Nat→PI) (l:List (Nat×Operand)) :(List PG→Stp)→Stp:=List.rec (motive:=fun _=>(List PG→Stp)→Stp) (fun k=>k []) (fun q _ ih k=>PI.rec (motive:=fun _=>Stp) .slow (fun o s=>dD K e q.2 fun g=>ih fun gs=>k (.at o s g::gs)) (pi q.1)) l
def DA (x:Operand) (K:Nat) (e:En) (_:Tbl):Stp:=dD K e x fun gx=> .val fun a b c d tm _ _ k _=>k (gx a b c d tm)
def L6 (p x y:Operand) (K:Nat) (e:En) (_:Tbl):Stp:=dD K e p fun gp=>dD K e x fun gx=>dD K e y fun gy=> .val fun a b c d tm _ _=>Rr (gp a b c d tm) (gx a b c d tm) (gy a b c d tm)
def BS (t:TypeId) (_:Nat) (_:En) (tb:Tbl):Stp:=ZTI.rec (motive:=fun _=>Stp) .slow (fun z n=> .mem fun _ _ _ _ _ hp nx k sl=>bQ nx fun m=>FX m hp (.cells z n) (.ptr m 0) k sl) (wP tb t)
def QE (_:TypeId) (x:Operand) (K:Nat) (e:En) (_:Tbl):Stp:=dD K e x fun gx=> .mem fun a b c d tm hp nx k sl=>bQ nx fun m=>Sf (gx a b c d tm) hp m k sl
def ldS (i:TI) :(LdF→Stp)→Stp:=TI.rec (motive:=fun _=>(LdF→Stp)→Stp) (fun _=> .slow) (fun k=>k Ah) (fun n k=>k (Ag n)) i
def L5 (t:TypeId) (x:Operand) (K:Nat) (e:En) (tb:Tbl):Stp:=ldS (tyI tb t) fun ld=>dD K e x fun gx=> .val fun a b c d tm hp _=>ldG ld (gx a b c d tm) hp
def stS (i:TI) :(StF→Stp)→Stp:=TI.rec (motive:=fun _=>(StF→Stp)→Stp) (fun _=> .slow) (fun k=>k MY) (fun n k=>k (MX n)) i
def G4 (t:TypeId) (x y:Operand) (K:Nat) (e:En) (tb:Tbl):Stp:=stS (tyI tb t) fun st=>dD K e x fun gx=>dD K e y fun gy=> .mem fun a b c d tm hp _=>stG st (gx a b c d tm) (gy a b c d tm) hp
def cFA (t:TypeId) (x:Operand) (f:Nat) (K:Nat) (e:En) (tb:Tbl):Stp:=Option.rec (motive:=fun _=>Stp) .slow (fun o=>dD K e x fun gx=> .val fun a b c d tm _ _=>faG o (gx a b c d tm)) (KG tb t f)
def cFV (t:TypeId) (x:Operand) (f:Nat) (K:Nat) (e:En) (tb:Tbl):Stp:=FVI.rec (motive:=fun _=>Stp) .slow (fun o i=>ldS i fun ld=>dD K e x fun gx=> .val fun a b c d tm _ _=>fvG o ld (gx a b c d tm)) (Og tb t f)
def cIA (t:TypeId) (x i:Operand) (K:Nat) (e:En) (tb:Tbl):Stp:=IXI.rec (motive:=fun _=>Stp) .slow
 (fun esz=>dD K e x fun gx=>dD K e i fun gi=> .val fun a b c d tm hp _=>Sv esz (gx a b c d tm) (gi a b c d tm) hp)
 (fun l esz=>dD K e x fun gx=>dD K e i fun gi=> .val fun a b c d tm _ _=>Su l esz (gx a b c d tm) (gi a b c d tm)) (KQ tb t)
def NW (t:TypeId) (x i:Operand) (K:Nat) (e:En) (tb:Tbl):Stp:=IVI.rec (motive:=fun _=>Stp) .slow (fun l esz ti=>ldS ti fun ld=>dD K e x fun gx=>dD K e i fun gi=> .val fun a b c d tm _ _=>ixV l esz ld (gx a b c d tm) (gi a b c d tm)) (Ov tb t)
def Se (op:BinOp) :(E7→Stp)→Stp:=BinOp.rec (motive:=fun _=>(E7→Stp)→Stp)
 (fun k=>k QP) (fun k=>k QT) (fun k=>k QQ) (fun k=>k QR) (fun k=>k QS) (fun _=> .slow) (fun _=> .slow) (fun _=> .slow) (fun _=> .slow) (fun _=> .slow) (fun _=> .slow)
 (fun k=>k fEq) (fun k=>k fNe) (fun k=>k fLt) (fun k=>k fLe) (fun k=>k fGt) (fun k=>k fGe) op
def NS (op:BinOp) (t:TypeId) (x y:Operand) (_:TypeId) (K:Nat) (e:En) (tb:Tbl):Stp:=Bool.rec (motive:=fun _=>Stp) .slow (Se op fun f=>dD K e x fun gx=>dD K e y fun gy=> .val fun a b c d tm _ _=>Kk f (gx a b c d tm) (gy a b c d tm)) (Qq tb t)
def cUn (op:UnOp) (_:TypeId) (x:Operand) (K:Nat) (e:En) (_:Tbl):Stp:=UnOp.rec (motive:=fun _=>Stp) .slow .slow (dD K e x fun gx=> .val fun a b c d tm _ _=>SB (gx a b c d tm)) .slow op
def G0 (s t:TypeId) (x:Operand) (K:Nat) (e:En) (tb:Tbl):Stp:=Option.rec (motive:=fun _=>Stp) .slow (fun ik=>dD K e x fun gx=> .val fun a b c d tm _ _=>cvG ik (gx a b c d tm)) (cvI tb s t)
def cMF (fn:Fn) (first caps:Array Operand) (K:Nat) (e:En) (_:Tbl):Stp:=match fn with
 | .func f=>Bool.rec (motive:=fun _=>Stp) .slow (.val fun a b c d tm _ _ k sl=>ckR (bZ (DB caps.toList fun x=>rdS K e x a b c d tm)) (k (.oth (.fn f (DB caps.toList fun x=>rdS K e x a b c d tm)))) sl) (Nat.beq first.size 0)
 | _=> .slow
def QG (x:Operand) (i:Nat) (K:Nat) (e:En) (_:Tbl):Stp:=dD K e x fun gx=> .val fun a b c d tm _ _=>exG i (gx a b c d tm)
def QH (x:Operand) (K:Nat) (e:En) (_:Tbl):Stp:=dD K e x fun gx=> .val fun a b c d tm _ _=>Sz (gx a b c d tm)
def BT (t:TypeId) (parts:Array (Nat×Operand)) (K:Nat) (e:En) (tb:Tbl):Stp:=Bool.rec (motive:=fun _=>Stp) .slow (ZTI.rec (motive:=fun _=>Stp) .slow (fun z n=>yf K e (Jf tb t) parts.toList fun gs=> .val fun a b c d tm _ _ k sl=>Ht a b c d tm n gs z (fun t=>k (.agg t n)) sl) (wP tb t)) (w4 tb t)
def NR (t:TypeId) (n:Nat) (parts:Array (Nat×Operand)) (K:Nat) (e:En) (tb:Tbl):Stp:=SLI.rec (motive:=fun _=>Stp) .slow (fun esz z len=>yf K e (fun i=> .at (Nat.mul i esz) esz) parts.toList fun gs=> .mem fun a b c d tm hp nx=>Sg esz n z len a b c d tm gs hp nx) (NP tb t n)
def BU (t:TypeId) (x:Operand) (lo hi mx:Option Operand) (K:Nat) (e:En) (tb:Tbl):Stp:=Option.rec (motive:=fun _=>Stp) (Option.rec (motive:=fun _=>Stp) .slow (fun esz=>dD K e x fun gx=> .val fun a b c d tm hp _=>SJ esz (gx a b c d tm) lo hi (fun x=>rdS K e x a b c d tm) hp) (PK tb t)) (fun _=> .slow) mx
def CF (l:List Operand) (k:Operand→Stp):Stp:=List.rec (motive:=fun _=>Stp) .slow (fun x r _=>List.rec (motive:=fun _=>Stp) (k x) (fun _ _ _=> .slow) r) l
def J6 (l:List Operand) (k:Operand→Operand→Stp):Stp:=List.rec (motive:=fun _=>Stp) .slow (fun x r _=>CF r (k x)) l
def NX (q:Call) (K:Nat) (e:En) (tb:Tbl):Stp:=Bool.rec (motive:=fun _=>Stp) .slow (CF q.args.toList fun x=>dD K e x fun gx=> .val fun a b c d tm hp _=>Sx (gx a b c d tm) hp) (HS tb q)
def NQ (q:Call) (K:Nat) (e:En) (tb:Tbl):Stp:=API.rec (motive:=fun _=>Stp) .slow (fun esz bytes=>J6 q.args.toList fun s x=>dD K e s fun gs=>dD K e x fun gx=> .mem fun a b c d tm hp nx=>apG esz bytes (gs a b c d tm) (gx a b c d tm) hp nx) (NJ tb q)
def gI (_:Call) (_:Nat) (_:En) (_:Tbl):Stp:= .slow
def QF (b:Builtin):Call→Nat→En→Tbl→Stp:=Builtin.rec (motive:=fun _=>Call→Nat→En→Tbl→Stp) NQ gI gI gI gI gI gI gI NX gI gI gI gI gI gI gI gI gI gI gI gI gI gI gI gI gI b
def GY (q:Call) (K:Nat) (e:En) (tb:Tbl):Stp:=Callee.rec (motive:=fun _=>Stp) (fun f=>dD K e f fun gf=>Mn K e q.args.toList fun gs=> .cal fun a b c d tm=>Si gs (gf a b c d tm) a b c d tm) (fun _ _=> .slow) (fun b=>QF b q K e tb) q.callee
def cmp (K:Nat) (e:En) (tb:Tbl) (op:Op):Stp:=Op.rec (motive:=fun _=>Nat→En→Tbl→Stp)
 DA
 DA
 L6
 BS
 QE
 BT
 NR
 (fun _ _ _ _ _ _ _=> .slow)
 L5
 G4
 (fun _ _ _ _=> .slow)
 (fun _ _ _ _=> .slow)
 QH
 NS
 cUn
 G0
 (fun _ _ _ _ _=> .slow)
 (fun _ _ _ _ _=> .slow)
 cMF
 (fun _ _ _ _ _=> .slow)
 (fun _ _ _ _ _=> .slow)
 (fun _ _ _ _ _ _=> .slow)
 BU
 cFA
 cFV
 cIA
 NW
 (fun _ _ _ _ _ _ _=> .slow)
 (fun _ _ _ _ _ _ _=> .slow)
 (fun _ _ _ _ _ _=> .slow)
 (fun _ _ _ _ _ _ _=> .slow)
 (fun _ _ _ _ _=> .slow)
 (fun _ _ _ _ _=> .slow)
 (fun _ _ _ _=> .slow)
 (fun _ _ _ _ _ _ _=> .slow)
 QG
 GY
 (fun _ _ _ _=> .slow)
 (fun _ _ _ _=> .slow)
 (fun _ _ _ _=> .slow)
 (fun _ _ _ _ _=> .slow)
 (fun _ _ _ _ _ _=> .slow)
 (fun _ _ _ _ _=> .slow) op K e tb
def hpH (hp:HP):aw:=fun h=>(bd hp h).toB
def tj:List (Nat×Blk)→HP→Option HP
 | [],hp=>some hp
 |(h,b)::r,hp=>match tj r hp with
  | some hp=>bif Nat.ble (Nat.succ h) K4 then match b with
   | .cells cs=>bif gj cs then some (dy hp h (.cells (ofL cs) cs.length)) else none
   | .grow v e cs=>bif gj cs then some (dy hp h (.grow v e (ofL cs) cs.length)) else none
   | .mp es=>some (dy hp h (.mp es))
   | .row _ _ _ _=>none
   | .abs _ _ _=>none
   else none
  | none=>none
def kbV:V→V
 | .agg cs=> .agg (cs.map jy)
 | .tup vs=> .tup (vs.map fun v=>match v with
  | .agg cs=> .agg (cs.map jy)
  | v=>jy v)
 | v=>jy v
def MW (tb:Tbl) (N:Nat) (op:Op) (ev:Operand→U) (hp:HP) (nx:Nat) (k:U→HP→Rv):Rv:=bQ nx fun nx=>
 match rB tb N nx (hpH hp) (fun x=>(ev x).toV) op with
 | some (ps,v,dh)=>match Ml ps with
  | true=>match tj dh hp with
   | some hp=>k (ko (kbV v)) hp
   | none=> .no [104]
  | false=> .no [100]
 | none=> .no [101]
abbrev RgF:=U→U→U→U→eM→TM→HP→Nat→Rv
structure Cds where
 run:RgF
abbrev R8:=U→TM→TM
inductive DK where
 | none
 | drop
 | keep (p:R8)
def dkS (K:Nat) (d:Option Nat):DK:=Option.rec (motive:=fun _=>DK) .none (fun i=>Bool.rec (motive:=fun _=>DK) .drop (Ac.rec (motive:=fun _=>DK) (fun _ p=> .keep p) (cE i)) (isK K i)) d
def enS (e:En) (d:Option Nat):En:=Option.rec (motive:=fun _=>En) e (fun i=>⟨Nat.succ i,e.e0,e.e1,e.e2⟩) d
def jQ (dk:DK) (nxt:Cds):U→U→U→U→U→eM→TM→HP→Nat→Rv:=DK.rec (motive:=fun _=>U→U→U→U→U→eM→TM→HP→Nat→Rv)
 (fun _ a b c d call tm hp nx=>Cds.run nxt a b c d call tm hp nx)
 (fun u a b c _ call tm hp nx=>Cds.run nxt u a b c call tm hp nx)
 (fun p u a b c _ call tm hp nx=>Cds.run nxt u a b c call (p u tm) hp nx) dk
def QJ (r:Rf):FuncId→(U→HP→Nat→Rv)→Rv:=Rf.rec (motive:=fun _=>FuncId→(U→HP→Nat→Rv)→Rv) (fun v hp nx _ k=>k v hp nx) (fun v hp nx _ k=>k v hp nx) (fun w g _=> .no (g::w)) r
def oO (tb:Tbl) (N K:Nat) (e:En) (op:Op) (dk:DK) (nxt:Cds) (a b c d:U) (call:eM) (tm:TM) (hp:HP) (nx:Nat):Rv:=MW tb N op (fun x=>rdS K e x a b c d tm) hp nx fun u hp=>jQ dk nxt u a b c d call tm hp (Nat.succ nx)
def yH (tb:Tbl) (N K:Nat) (e:En) (op:Op) (dk:DK) (nxt:Cds) (s:Stp):Cds:=Stp.rec (motive:=fun _=>Cds)
 ⟨oO tb N K e op dk nxt⟩
 (fun f=>DK.rec (motive:=fun _=>Cds)
  ⟨fun a b c d call tm hp nx=>f a b c d tm hp nx (fun _=>Cds.run nxt a b c d call tm hp (Nat.succ nx)) (oO tb N K e op dk nxt a b c d call tm hp nx)⟩
  ⟨fun a b c d call tm hp nx=>f a b c d tm hp nx (fun u=>Cds.run nxt u a b c call tm hp (Nat.succ nx)) (oO tb N K e op dk nxt a b c d call tm hp nx)⟩
  (fun p=>⟨fun a b c d call tm hp nx=>f a b c d tm hp nx (fun u=>Cds.run nxt u a b c call (p u tm) hp (Nat.succ nx)) (oO tb N K e op dk nxt a b c d call tm hp nx)⟩) dk)
 (fun f=>⟨fun a b c d call tm hp nx=>f a b c d tm hp nx (fun u hp=>jQ dk nxt u a b c d call tm hp (Nat.succ nx)) (oO tb N K e op dk nxt a b c d call tm hp nx)⟩)
 (fun f=>⟨fun a b c d call tm hp nx=>f a b c d tm (fun g args=>QJ (call g args hp nx) g fun u hp nx=>jQ dk nxt u a b c d call tm hp nx) (oO tb N K e op dk nxt a b c d call tm hp nx)⟩) s
def Hv (all:List Oper) (j:Nat):Option Nat:=match all[j]? with
 | some oj=>oj.dst
 | none=>none
def QD:Cds:=⟨fun _ _ _ _ _ _ _ _=> .no [102]⟩
def HC (K:Nat) (e:En) (i:Nat) (k:Gt→Cds):Cds:=
 Bool.rec (motive:=fun _=>Cds) (Bool.rec (motive:=fun _=>Cds) (Bool.rec (motive:=fun _=>Cds) (Bool.rec (motive:=fun _=>Cds) (Bool.rec (motive:=fun _=>Cds) (k fun _ _ _ _ _=>u0) (Ac.rec (motive:=fun _=>Cds) (fun g _=>k fun _ _ _ _ tm=>g tm) (cE i)) (isK K i))
  (k fun _ _ _ r _=>r) (Nat.beq e.e3 (Nat.succ i))) (k fun _ _ r _ _=>r) (Nat.beq e.e2 (Nat.succ i))) (k fun _ r _ _ _=>r) (Nat.beq e.e1 (Nat.succ i))) (k fun r _ _ _ _=>r) (Nat.beq e.e0 (Nat.succ i))
def gdC (K:Nat) (e:En) (dj:Nat) (want:Bool) (dk:DK) (nxt un:Cds):Cds:=HC K e dj fun g=>Bool.rec (motive:=fun _=>Cds)
 ⟨fun a b c d call tm hp nx=>RU (g a b c d tm) (Cds.run un a b c d call tm hp nx) (jQ dk nxt (.tup []) a b c d call tm hp nx) (.no [105])⟩
 ⟨fun a b c d call tm hp nx=>RW (g a b c d tm) (Cds.run un a b c d call tm hp nx) (jQ dk nxt (.tup []) a b c d call tm hp nx) (.no [105])⟩ want
def Pn (tb:Tbl) (N K:Nat) (all:List Oper) (e:En) (o:Oper) (dk:DK) (nxt:Cds):Cds:=Option.rec (motive:=fun _=>Cds) (yH tb N K e o.op dk nxt (cmp K e tb o.op))
 (fun q=>Option.rec (motive:=fun _=>Cds) QD (fun dj=>gdC K e dj q.2 dk nxt (yH tb N K e o.op dk nxt (cmp K e tb o.op))) (Hv all q.1)) o.guard
def Rq (tb:Tbl) (N K:Nat) (all l:List Oper):En→Cds:=List.rec (motive:=fun _=>En→Cds) (fun _=>⟨fun _ _ _ _ _ tm hp nx=> .go .nrm tm hp nx⟩) (fun o _ ih e=>Pn tb N K all e o (dkS K o.dst) (ih (enS e o.dst))) l
def tH (tm:TM) (i:Nat) (u:U):TM:=Ac.rec (motive:=fun _=>U→TM→TM) (fun _ p=>p) (cE i) u tm
def wEx (v:V):Option W:=match v with
 | .agg cs=>Bool.rec (motive:=fun _=>Option W) none (some (.agg (ofL cs) cs.length)) (gj cs)
 | .tup _=>none
 | v=>some (.c (Fk v))
def Ka:List V→Option (List W)
 | []=>some []
 | v::r=>match wEx v with
  | some w=>match Ka r with
   | some l=>some (w::l)
   | none=>none
  | none=>none
def uEx (v:V):Option U:=match v with
 | .agg cs=>Bool.rec (motive:=fun _=>Option U) none (some (.agg (ofL cs) cs.length)) (gj cs)
 | .tup vs=>match Ka vs with
  | some l=>some (.tup l)
  | none=>none
 | .bool b=>some (.kb b)
 | .int k n=>some (.int k n)
 | .kb b=>some (.kb b)
 | .ptr h o=>some (.ptr h o)
 | .gp h v o=>some (.gp h v o)
 | .gsl h v e o l=>some (.gsl h v e o l)
 | v=>some (.oth v)
def vN (K:Nat) (tm:TM) (i:Nat):V:=(dB K en0 i u0 u0 u0 u0 tm).toV
def Ch (K:Nat) (all:List Oper) (tm:TM) (o:Oper):Option Bool:=
 match o.guard with
 | none=>some true
 | some (j,want)=>match all[j]? with
  | some oj=>match oj.dst with
   | some dj=>match vN K tm dj with
    | .kb b=>some (b==want)
    | .tup []=>some false
    | _=>none
   | none=>none
  | none=>none
def fc (K:Nat) (rs:List Nat) (tm:TM):Operand→V
 | .tmp t=>bif memN rs t then vN K tm t else .any
 | .const v=>cv v
 | .func f=> .fn f []
 | .global _=> .any
def zj (N K:Nat) (d:Option Nat):Bool:=match d with
 | some d=>Nat.blt d N&&isK K d
 | none=>true
def l9 (d:Option Nat) (u:U) (tm:TM):TM:=match d with
 | some d=>tH tm d u
 | none=>tm
def Ol (c:C) (r:List Nat):List Nat:=C.rec (motive:=fun _=>List Nat) (fun _ _=>r) (fun _=>r) (fun h _=>h::r) (fun h _ _=>h::r) (fun h _ _ _ _=>h::r) (fun v=>v.hs++r) c
def hsT (t:CT) (n:Nat):Nat→List Nat:=Nat.rec (motive:=fun _=>Nat→List Nat) (fun _=> []) (fun _ ih i=>Ol (cf t i) (ih (Nat.succ i))) n
def xP (b:Bk):List Nat:=Bk.rec (motive:=fun _=>List Nat) [] (fun t n=>hsT t n 0) (fun _ _ t n=>hsT t n 0) (fun es=>hsE es) b
def Q8 (b:Bk):Bool:=Bk.rec (motive:=fun _=>Bool) false (fun _ _=>true) (fun _ _ _ _=>true) (fun _=>true) b
def pT (hp:HP):Nat→List Nat→List Nat→List Nat
 | 0,_,acc=>acc
 | n+1,new,acc=>
  let add:=new.filter fun h=>!memN acc h
  let nxt:=add.flatMap fun h=>xP (bd hp h)
  match add with
  | []=>acc
  | _=>pT hp n nxt (add++acc)
def xJ (hp:HP) (R:List Nat) (m K:Nat) (v:V) (dh:List (Nat×Blk)):Bool:=
 (R.all fun h=>bif Q8 (bd hp h) then mU R m K (xP (bd hp h)) else false)&&(dh.all fun q=>mU R m K [q.1]&&mU R m K q.2.hs)&&mU R m K v.hs
def eqC (c d:C):Bool:=C.rec (motive:=fun _=>Bool)
 (fun k n=>C.rec (motive:=fun _=>Bool) (fun k' n'=>Bool.rec (motive:=fun _=>Bool) false (eqS n n') (Oo k k')) (fun _=>false) (fun _ _=>false) (fun _ _ _=>false) (fun _ _ _ _ _=>false) (fun _=>false) d)
 (fun b=>C.rec (motive:=fun _=>Bool) (fun _ _=>false) (fun b'=>Bool.rec (motive:=fun _=>Bool) (FZ b') b' b) (fun _ _=>false) (fun _ _ _=>false) (fun _ _ _ _ _=>false) (fun _=>false) d)
 (fun h o=>C.rec (motive:=fun _=>Bool) (fun _ _=>false) (fun _=>false) (fun h' o'=>Bool.rec (motive:=fun _=>Bool) false (Nat.beq o o') (Nat.beq h h')) (fun _ _ _=>false) (fun _ _ _ _ _=>false) (fun _=>false) d)
 (fun h v o=>C.rec (motive:=fun _=>Bool) (fun _ _=>false) (fun _=>false) (fun _ _=>false) (fun h' v' o'=>Bool.rec (motive:=fun _=>Bool) false (Bool.rec (motive:=fun _=>Bool) false (Nat.beq o o') (Nat.beq v v')) (Nat.beq h h')) (fun _ _ _ _ _=>false) (fun _=>false) d)
 (fun h v e o l=>C.rec (motive:=fun _=>Bool) (fun _ _=>false) (fun _=>false) (fun _ _=>false) (fun _ _ _=>false) (fun h' v' e' o' l'=>Bool.rec (motive:=fun _=>Bool) false (Bool.rec (motive:=fun _=>Bool) false (Bool.rec (motive:=fun _=>Bool) false (Bool.rec (motive:=fun _=>Bool) false (Nat.beq l l') (Nat.beq o o')) (Nat.beq e e')) (Nat.beq v v')) (Nat.beq h h')) (fun _=>false) d)
 (fun v=>C.rec (motive:=fun _=>Bool) (fun _ _=>false) (fun _=>false) (fun _ _=>false) (fun _ _ _=>false) (fun _ _ _ _ _=>false) (fun v'=>V.eqb v v') d) c
def eqT (t t':CT) (n:Nat):Nat→Bool:=Nat.rec (motive:=fun _=>Nat→Bool) (fun _=>true) (fun _ ih i=>Bool.rec (motive:=fun _=>Bool) false (ih (Nat.succ i)) (eqC (cf t i) (cf t' i))) n
def FD (b d:Bk):Bool:=Bk.rec (motive:=fun _=>Bool) (Bk.rec (motive:=fun _=>Bool) true (fun _ _=>false) (fun _ _ _ _=>false) (fun _=>false) d)
 (fun t n=>Bk.rec (motive:=fun _=>Bool) false (fun t' n'=>Bool.rec (motive:=fun _=>Bool) false (eqT t t' n 0) (Nat.beq n n')) (fun _ _ _ _=>false) (fun _=>false) d)
 (fun v e t n=>Bk.rec (motive:=fun _=>Bool) false (fun _ _=>false) (fun v' e' t' n'=>Bool.rec (motive:=fun _=>Bool) false (Bool.rec (motive:=fun _=>Bool) false (Bool.rec (motive:=fun _=>Bool) false (eqT t t' n 0) (Nat.beq n n')) (Nat.beq e e')) (Nat.beq v v')) (fun _=>false) d)
 (fun es=>Bk.rec (motive:=fun _=>Bool) false (fun _ _=>false) (fun _ _ _ _=>false) (fun es'=>FE es es') d) b
def iR:List Nat→(List Nat→Rv)→Rv
 | [],k=>k []
 | n::r,k=>bQ n fun n=>iR r fun r=>k (n::r)
def sU (hp:HP):List Nat→HP→HP
 | [],t=>t
 | h::r,t=>sU hp r (dy t h (bd hp h))
def FU (hp':HP):List Nat→HP→Option (HP×List (Nat×Blk))
 | [],hp=>some (hp,[])
 | h::r,hp=>match (bd hp' h).toB with
  | some b=>match FU hp' r hp with
   | some (hp,dh)=>some (dy hp h (bd hp' h),(h,b)::dh)
   | none=>none
  | none=>none
def B0 (call:eM) (g:FuncId) (args:List U) (hp:HP) (R:List Nat) (m:Nat) (k:U→HP→List (Nat×Blk)→Nat→Rv):Rv:=
 match call g args (sU hp R hp0) m with
 | .ok u hp' nx=>iR (R.filter fun h=>!FD (bd hp h) (bd hp' h)) fun chg=>iR ((pT hp' 64 (u.toV.hs++chg) []).filter fun h=>!(memN R h&&!memN chg h)) fun keys=>
   bif chg.all (fun h=>memN keys h) then match FU hp' keys hp with
    | some (hp,dh)=>k u hp dh nx
    | none=> .no [23]
   else .no [22]
 | .ex _ _ _=> .no [24]
 | .no w=> .no (g::w)
def EO (all:List Oper) (o o':Oper):Bool:=qD o.dst.toList o'.dst.toList&&qD o.dst.toList (aj all o')&&qD o'.dst.toList (aj all o)
def EP (ms:List Nat) (all:List Oper) (i:Nat) (o:Oper):Nat→List Oper→Bool
 | _,[]=>true
 | j,o'::os=>(((ms[j]?).getD 0).testBit i||EO all o o')&&EP ms all i o (j+1) os
def EM (ms:List Nat) (all:List Oper):Nat→List Oper→Bool
 | _,[]=>true
 | i,o::os=>EP ms all i o (i+1) os&&EM ms all (i+1) os
def EN (all:List Oper):Bool:=cF 0 all&&EM (bL all []) all 0 all
def Hi (r s:Rec):Bool:=qD (r.dh.map (·.1)) (s.dh.map (·.1))&&qD (r.dh.map (·.1)) s.R
def F7 (ms:List Nat) (i j:Nat):Bool:=Nat.beq i j ||(bif Nat.blt i j then ((ms[j]?).getD 0).testBit i else ((ms[i]?).getD 0).testBit j)
def Hj (ms:List Nat) (i:Nat) (r:Rec):Nat→List Rec→Bool
 | _,[]=>true
 | j,s::ss=>(F7 ms i j||Hi r s)&&Hj ms i r (j+1) ss
def FB (ms:List Nat) (recs:List Rec):Nat→List Rec→Bool
 | _,[]=>true
 | i,r::rs=>(match r.dh with
  | []=>true
  | _::_=>Hj ms i r 0 recs)&&FB ms recs (i+1) rs
abbrev Alt:=Option (Nat×(Blk→Bool))
def lkD (tb:Tbl) (ev:Operand→V) (op:Op):Option (Nat×TD×TD×V×Bool):=match op with
 | .lookup t x k ok=>match jt tb t with
  | some q=>match ev x with
   | .mpv h=>some (h,q.1,q.2,ev k,ok)
   | _=>none
  | none=>none
 | _=>none
def Pj (tk te:TD) (h0:Nat) (k:V) (ok:Bool) (v:V) (b:Blk):Bool:=match cn tk te (fun _=>some b) (.mpv h0) k ok with
 | .val _ v' _=>V.eqb v' v
 | _=>false
def GP (ms:List Nat) (i h0:Nat) (okB:Blk→Bool):Nat→List Rec→Bool
 | _,[]=>true
 | j,s::ss=>(match find s.dh h0 with
  | none=>true
  | some b=>Nat.beq i j ||(bif Nat.blt j i then ((ms[i]?).getD 0).testBit j else ((ms[j]?).getD 0).testBit i||okB b))&&GP ms i h0 okB (j+1) ss
def wY (ms:List Nat) (recs:List Rec):Nat→List Alt→Bool
 | _,[]=>true
 | i,none::r=>wY ms recs (i+1) r
 | i,some (h0,okB)::r=>GP ms i h0 okB 0 recs&&wY ms recs (i+1) r
def lp (tb:Tbl) (N K:Nat) (call:eM) (all:List Oper):List Oper→TM→HP→Nat→List (Rec×Alt)→Rv
 | [],tm,hp,nx,recs=>bif EN all&&(FB (bL all []) (recs.reverse.map (·.1)) 0 (recs.reverse.map (·.1))&&wY (bL all []) (recs.reverse.map (·.1)) 0 (recs.reverse.map (·.2))) then .go .nrm tm hp nx else .no [30]
 | o::rest,tm,hp,nx,recs=>bif zj N K o.dst then
   match Ch K all tm o with
   | some false=>bQ (nx+1) fun nx=>lp tb N K call all rest (l9 o.dst (.tup []) tm) hp nx ((⟨o.dst,.tup [],[],[],aj all o⟩,none)::recs)
   | some true=>iR (aj all o) fun rs=>match lkD tb (fc K rs tm) o.op with
    | some (h0,tk,te,k,ok)=>match cn tk te (hpH hp) (.mpv h0) k ok with
     | .val _ v _=>match uEx v with
      | some u=>bQ (nx+1) fun nx=>lp tb N K call all rest (l9 o.dst u tm) hp nx ((⟨o.dst,jy v,[],[],rs⟩,some (h0,Pj tk te h0 k ok v))::recs)
      | none=> .no [39,rest.length]
     | _=> .no [40,rest.length]
    | none=>bif n5 (fc K rs tm) o.op then iR (o.op.operands.toList.flatMap fun x=>(fc K rs tm x).hs) fun R=>
     match rB tb N nx (hpH hp) (fc K rs tm) o.op with
     | none=> .no [37,rest.length]
     | some (ps,v,dh)=>bif ps.all Ob.chk then match uEx v,tj dh hp with
       | some u,some hp'=>bQ (nx+1) fun nx=>lp tb N K call all rest (l9 o.dst u tm) hp' nx ((⟨o.dst,jy v,dh,R,rs⟩,none)::recs)
       | _,_=> .no [36,rest.length]
      else .no [38,rest.length]
    else iR (pT hp 8 (o.op.operands.toList.flatMap fun x=>(fc K rs tm x).hs) []) fun R=>
    match evA tb N nx (restr (hpH hp) R) (fc K rs tm) o.op with
    | .call g args=>B0 call g (args.map ko) hp R nx fun u hp' dh nx2=>
      bif xJ hp R nx (nx2+1 - nx) u.toV dh then
       bQ (nx2+1) fun nx=>lp tb N K call all rest (l9 o.dst u tm) hp' nx ((⟨o.dst,u.toV,dh,R,rs⟩,none)::recs)
      else .no [31,rest.length]
    | .plain none=> .no [33,rest.length]
    | .plain (some (ps,v,dh))=>bif ps.all Ob.chk&&xJ hp R nx 1 v dh then match uEx v,tj dh hp with
      | some u,some hp'=>bQ (nx+1) fun nx=>lp tb N K call all rest (l9 o.dst u tm) hp' nx ((⟨o.dst,jy v,dh,R,rs⟩,none)::recs)
      | _,_=> .no [36,rest.length]
     else .no [32,rest.length]
   | none=> .no [34,rest.length]
  else .no [35,rest.length]
def LK (r:Rv):KR→Rv:=Rv.rec (motive:=fun _=>KR→Rv) (fun e tm hp nx k=>Lf.rec (motive:=fun _=>Rv) (k tm hp nx) (fun id=> .go (.ext id) tm hp nx) (.go .ret tm hp nx) e) (fun w _=> .no w) r
def GT (id:Nat) (r:Rv):Rv:=Rv.rec (motive:=fun _=>Rv) (fun e tm hp nx=>Lf.rec (motive:=fun _=>Rv) (.go .nrm tm hp nx) (fun i=>Bool.rec (motive:=fun _=>Rv) (.go (.ext i) tm hp nx) (.go .nrm tm hp nx) (Nat.beq i id)) (.go .ret tm hp nx) e) .no r
def Ic (f:KR) (n:Nat):KR:=Nat.rec (motive:=fun _=>KR) (fun _ _ _=> .no [3]) (fun _ ih tm hp nx=>bQ nx fun nx=>LK (f tm hp nx) ih) n
structure Cd where
 run:eM→KR
def Py (tb:Tbl) (N K:Nat) (ops:List Oper):Cd:=Bool.rec (motive:=fun _=>Cd) ⟨fun _ _ _ _=> .no [103]⟩ ⟨Cds.run (Rq tb N K ops ops en0) u0 u0 u0 u0⟩ (Hh N ops)
def DQ (K:Nat) (e:En) (i:Nat) (k:Gt→Cd):Cd:=
 Bool.rec (motive:=fun _=>Cd) (Bool.rec (motive:=fun _=>Cd) (Bool.rec (motive:=fun _=>Cd) (Bool.rec (motive:=fun _=>Cd) (Bool.rec (motive:=fun _=>Cd) (k fun _ _ _ _ _=>u0) (Ac.rec (motive:=fun _=>Cd) (fun g _=>k fun _ _ _ _ tm=>g tm) (cE i)) (isK K i))
  (k fun _ _ _ r _=>r) (Nat.beq e.e3 (Nat.succ i))) (k fun _ _ r _ _=>r) (Nat.beq e.e2 (Nat.succ i))) (k fun _ r _ _ _=>r) (Nat.beq e.e1 (Nat.succ i))) (k fun r _ _ _ _=>r) (Nat.beq e.e0 (Nat.succ i))
def QL (K:Nat) (c:Operand) (ix iy:Cd):Cd:=Operand.rec (motive:=fun _=>Cd) (fun i=>DQ K en0 i fun g=>⟨fun call tm hp nx=>uKb (g u0 u0 u0 u0 tm) (fun b=>Bool.rec (motive:=fun _=>Rv) (Cd.run iy call tm hp nx) (Cd.run ix call tm hp nx) b) (.no [4])⟩) (fun v=>⟨fun call tm hp nx=>uKb (ko (cv v)) (fun b=>Bool.rec (motive:=fun _=>Rv) (Cd.run iy call tm hp nx) (Cd.run ix call tm hp nx) b) (.no [4])⟩) (fun _=>⟨fun _ _ _ _=> .no [4]⟩) (fun _=>⟨fun _ _ _ _=> .no [4]⟩) c
def fC (tb:Tbl) (N K:Nat) (c:Code):Cd:=Code.rec (motive:=fun _=>Cd)
 ⟨fun _ tm hp nx=> .go .nrm tm hp nx⟩
 (fun _ ops dr=>Bool.rec (motive:=fun _=>Cd) (Py tb N K ops.toList) ⟨fun call tm hp nx=>lp tb N K call ops.toList ops.toList tm hp nx []⟩ dr)
 (fun _ _ ia ib=>⟨fun call tm hp nx=>LK (Cd.run ia call tm hp nx) (Cd.run ib call)⟩)
 (fun c _ _ ix iy=>QL K c ix iy)
 (fun id _ ib=>⟨fun call tm hp nx=>GT id (Cd.run ib call tm hp nx)⟩)
 (fun _ ib=>⟨fun call=>Ic (Cd.run ib call) jj⟩)
 (fun _ _ _ _ _ _=>⟨fun _ _ _ _=> .no [6]⟩)
 (fun id=>⟨fun _ tm hp nx=> .go (.ext id) tm hp nx⟩)
 (fun _ _=>⟨fun _ _ _ _=> .no [6]⟩)
 (fun _=>⟨fun _ _ _ _=> .no [6]⟩)
 (fun _=>⟨fun _ _ _ _=> .no [6]⟩)
 ⟨fun _ tm hp nx=> .go .ret tm hp nx⟩
 (fun _=>⟨fun _ _ _ _=> .no [6]⟩) c
def iQ (l:List U):Nat→TM→TM:=List.rec (motive:=fun _=>Nat→TM→TM) (fun _ tm=>tm) (fun u _ ih i tm=>ih (Nat.succ i) (tH tm i u)) l
def ldP (ld:LdF) (a:U) (hp:HP) (k:U→Rv) (sl:Rv):Rv:=Ds a (fun h o=>bkC (bd hp h) (fun ct n=>ld ct n o k sl) sl) (fun _ _ _=>sl) sl
def EG (tb:Tbl) (K:Nat) (r:ResultVar):TM→HP→(U→Rv)→Rv→Rv:=ResultVar.rec (motive:=fun _=>TM→HP→(U→Rv)→Rv→Rv) (fun t tm _ k _=>k (dB K en0 t u0 u0 u0 u0 tm))
 (fun a t=>TI.rec (motive:=fun _=>TM→HP→(U→Rv)→Rv→Rv) (fun _ _ _ sl=>sl) (fun tm hp=>ldP Ah (dB K en0 a u0 u0 u0 u0 tm) hp) (fun n tm hp=>ldP (Ag n) (dB K en0 a u0 u0 u0 u0 tm) hp) (tyI tb t)) r
def wOf (u:U) (k:W→Rv) (sl:Rv):Rv:=uCA u (fun c=>k (.c c)) (fun t n=>k (.agg t n)) sl
def Jt (tb:Tbl) (K:Nat) (l:List ResultVar):TM→HP→(List W→Rv)→Rv→Rv:=List.rec (motive:=fun _=>TM→HP→(List W→Rv)→Rv→Rv) (fun _ _ k _=>k []) (fun r _ ih tm hp k sl=>EG tb K r tm hp (fun u=>wOf u (fun w=>ih tm hp (fun l=>k (w::l)) sl) sl) sl) l
def Rx (tb:Tbl) (K:Nat) (l:List ResultVar):TM→HP→(U→Rv)→Rv→Rv:=List.rec (motive:=fun _=>TM→HP→(U→Rv)→Rv→Rv) (fun _ _ k _=>k (.tup [])) (fun r rs _=>List.rec (motive:=fun _=>TM→HP→(U→Rv)→Rv→Rv) (EG tb K r) (fun _ _ _ tm hp k sl=>Jt tb K l tm hp (fun l=>k (.tup l)) sl) rs) l
def LH (tb:Tbl) (K:Nat) (rs:List ResultVar) (tm:TM) (hp:HP) (nx:Nat):Rv:=Rx tb K rs tm hp (fun u=> .go .ret (tH tm0 0 u) hp nx) (.no [8])
def Jv (r:Rv):Rf:=Rv.rec (motive:=fun _=>Rf) (fun _ tm hp nx=> .ok (Ac.rec (motive:=fun _=>TM→U) (fun g _=>g) (cE 0) tm) hp nx) .no r
def FC (tb:Tbl) (K:Nat) (rs:List ResultVar) (r:Rv):Rf:=Rv.rec (motive:=fun _=>Rf) (fun e tm hp nx=>Lf.rec (motive:=fun _=>Rf) (Jv (LH tb K rs tm hp nx)) (fun _=> .no [7]) (Jv (LH tb K rs tm hp nx)) e) .no r
structure Fc where
 run:eM→List U→HP→Nat→Rf
def xK (tb:Tbl) (K:Nat) (fn:Func):Fc:=Option.rec (motive:=fun _=>Fc) ⟨fun _ _ _ _=> .no [10]⟩ (fun c=>Bool.rec (motive:=fun _=>Fc) ⟨fun _ _ _ _=> .no [14]⟩
 ⟨fun call args hp nx=>Bool.rec (motive:=fun _=>Rf) (.no [9]) (FC tb K fn.results.toList (bQ nx fun nx=>Cd.run (fC tb fn.ntmps K c) call (iQ args 0 tm0) hp nx)) (Nat.ble args.length fn.ntmps)⟩ (Nat.ble fn.ntmps 512)) fn.body
abbrev wS:=FuncId→Option (List U→Option U)
def Ho (r:Option U) (hp:HP) (nx:Nat):Rf:=Option.rec (motive:=fun _=>Rf) (.no [13]) (fun u=> .ex u hp nx) r
def qF (tb:Tbl) (P:FuncId→Option Func) (X:wS) (KK:FuncId→Nat) (f:FuncId):Fc:=Option.rec (motive:=fun _=>Fc) (Option.rec (motive:=fun _=>Fc) ⟨fun _ _ _ _=> .no [12]⟩ (xK tb (KK f)) (P f)) (fun x=>⟨fun _ args hp nx=>Ho (x args) hp nx⟩) (X f)
def uN (tb:Tbl) (P:FuncId→Option Func) (X:wS) (KK:FuncId→Nat) (d:Nat):eM:=Nat.rec (motive:=fun _=>eM) (fun _ _ _ _=> .no [11]) (fun _ ih f args hp nx=>Fc.run (qF tb P X KK f) ih args hp nx) d
def HT (l:List UInt8):Nat→Nat→Int:=List.rec (motive:=fun _=>Nat→Nat→Int) (fun _ _=> .negSucc 0) (fun b _ ih c i=>Bool.rec (motive:=fun _=>Int) (ih c (Nat.succ i)) (.ofNat i) (Nat.beq b.toNat c)) l
def ixB (l:List U):Option U:=match l with
 | [.oth (.str s),.int .u8 (.ofNat c)]=>some (.int .i64 (HT s.data.toList c 0))
 | _=>none
end
end Go.Mir
