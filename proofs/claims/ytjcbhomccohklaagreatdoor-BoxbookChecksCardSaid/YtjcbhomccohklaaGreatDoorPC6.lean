/- Texts of the mirror and contracts, put together. -/
import Derived.Test.YtjcbhomccohklaaGreatDoorPC5
import Derived.LoopN
namespace Go.Mir
section
open Go.RowKit
noncomputable section
structure N8 (α:Type) where
 a:α
 b:α
 c:α
 d:α
 e:α
 f:α
 g:α
 h:α
structure Ac (σ α:Type) where
 get:σ→α
 put:α→σ→σ
def Ac.da {α:Type}:Ac (N8 α) α:=⟨N8.a,fun x n=>N8.rec (motive:=fun _=>N8 α) (fun _ b c d e f g h=>⟨x,b,c,d,e,f,g,h⟩) n⟩
def Ac.db {α:Type}:Ac (N8 α) α:=⟨N8.b,fun x n=>N8.rec (motive:=fun _=>N8 α) (fun a _ c d e f g h=>⟨a,x,c,d,e,f,g,h⟩) n⟩
def Ac.dc {α:Type}:Ac (N8 α) α:=⟨N8.c,fun x n=>N8.rec (motive:=fun _=>N8 α) (fun a b _ d e f g h=>⟨a,b,x,d,e,f,g,h⟩) n⟩
def Ac.dd {α:Type}:Ac (N8 α) α:=⟨N8.d,fun x n=>N8.rec (motive:=fun _=>N8 α) (fun a b c _ e f g h=>⟨a,b,c,x,e,f,g,h⟩) n⟩
def Ac.de {α:Type}:Ac (N8 α) α:=⟨N8.e,fun x n=>N8.rec (motive:=fun _=>N8 α) (fun a b c d _ f g h=>⟨a,b,c,d,x,f,g,h⟩) n⟩
def Ac.df {α:Type}:Ac (N8 α) α:=⟨N8.f,fun x n=>N8.rec (motive:=fun _=>N8 α) (fun a b c d e _ g h=>⟨a,b,c,d,e,x,g,h⟩) n⟩
def Ac.dg {α:Type}:Ac (N8 α) α:=⟨N8.g,fun x n=>N8.rec (motive:=fun _=>N8 α) (fun a b c d e f _ h=>⟨a,b,c,d,e,f,x,h⟩) n⟩
def Ac.dh {α:Type}:Ac (N8 α) α:=⟨N8.h,fun x n=>N8.rec (motive:=fun _=>N8 α) (fun a b c d e f g _=>⟨a,b,c,d,e,f,g,x⟩) n⟩
def d8 {α:Type} (r:Nat):Ac (N8 α) α:=Bool.rec (motive:=fun _=>Ac (N8 α) α) (Bool.rec (motive:=fun _=>Ac (N8 α) α) (Bool.rec (motive:=fun _=>Ac (N8 α) α) (Bool.rec (motive:=fun _=>Ac (N8 α) α) (Bool.rec (motive:=fun _=>Ac (N8 α) α) (Bool.rec (motive:=fun _=>Ac (N8 α) α) (Bool.rec (motive:=fun _=>Ac (N8 α) α) (Ac.dh) Ac.dg (Nat.beq r 6)) Ac.df (Nat.beq r 5)) Ac.de (Nat.beq r 4)) Ac.dd (Nat.beq r 3)) Ac.dc (Nat.beq r 2)) Ac.db (Nat.beq r 1)) Ac.da (Nat.beq r 0)
def Ac.comp3 {s0 s1 s2 s3:Type} (f1:Ac s0 s1) (f2:Ac s1 s2) (f3:Ac s2 s3):Ac s0 s3:=
 Ac.rec (motive:=fun _=>Ac s0 s3) (fun g1 p1=>Ac.rec (motive:=fun _=>Ac s0 s3) (fun g2 p2=>Ac.rec (motive:=fun _=>Ac s0 s3) (fun g3 p3=>⟨fun s=>(g3 (g2 (g1 s))),fun x s=>(p1 (p2 (p3 x (g2 (g1 s))) (g1 s)) s)⟩) f3) f2) f1
def Ac.comp4 {s0 s1 s2 s3 s4:Type} (f1:Ac s0 s1) (f2:Ac s1 s2) (f3:Ac s2 s3) (f4:Ac s3 s4):Ac s0 s4:=
 Ac.rec (motive:=fun _=>Ac s0 s4) (fun g1 p1=>Ac.rec (motive:=fun _=>Ac s0 s4) (fun g2 p2=>Ac.rec (motive:=fun _=>Ac s0 s4) (fun g3 p3=>Ac.rec (motive:=fun _=>Ac s0 s4) (fun g4 p4=>⟨fun s=>(g4 (g3 (g2 (g1 s)))),fun x s=>(p1 (p2 (p3 (p4 x (g3 (g2 (g1 s)))) (g2 (g1 s))) (g1 s)) s)⟩) f4) f3) f2) f1
def Ac.comp6 {s0 s1 s2 s3 s4 s5 s6:Type} (f1:Ac s0 s1) (f2:Ac s1 s2) (f3:Ac s2 s3) (f4:Ac s3 s4) (f5:Ac s4 s5) (f6:Ac s5 s6):Ac s0 s6:=
 Ac.rec (motive:=fun _=>Ac s0 s6) (fun g1 p1=>Ac.rec (motive:=fun _=>Ac s0 s6) (fun g2 p2=>Ac.rec (motive:=fun _=>Ac s0 s6) (fun g3 p3=>Ac.rec (motive:=fun _=>Ac s0 s6) (fun g4 p4=>Ac.rec (motive:=fun _=>Ac s0 s6) (fun g5 p5=>Ac.rec (motive:=fun _=>Ac s0 s6) (fun g6 p6=>⟨fun s=>(g6 (g5 (g4 (g3 (g2 (g1 s)))))),fun x s=>(p1 (p2 (p3 (p4 (p5 (p6 x (g5 (g4 (g3 (g2 (g1 s)))))) (g4 (g3 (g2 (g1 s))))) (g3 (g2 (g1 s)))) (g2 (g1 s))) (g1 s)) s)⟩) f6) f5) f4) f3) f2) f1
def dig (i k:Nat):Nat:=Nat.mod (Nat.div i k) 8
abbrev T3 (α:Type):=N8 (N8 (N8 α))
abbrev T4 (α:Type):=N8 (T3 α)
abbrev T6 (α:Type):=N8 (N8 (T4 α))
def cC {α:Type} (i:Nat):Ac (T3 α) α:=Ac.comp3 (d8 (dig i 64)) (d8 (dig i 8)) (d8 (dig i 1))
def vf {α:Type} (i:Nat):Ac (T4 α) α:=Ac.comp4 (d8 (dig i 512)) (d8 (dig i 64)) (d8 (dig i 8)) (d8 (dig i 1))
def yt {α:Type} (i:Nat):Ac (T6 α) α:=Ac.comp6 (d8 (dig i 32768)) (d8 (dig i 4096)) (d8 (dig i 512)) (d8 (dig i 64)) (d8 (dig i 8)) (d8 (dig i 1))
def EI {α:Type} (x:α):N8 α:=⟨x,x,x,x,x,x,x,x⟩
def Hv {α:Type} (x:α):T3 α:=EI (EI (EI x))
def QO {α:Type} (x:α):T4 α:=EI (Hv x)
def MU {α:Type} (x:α):T6 α:=EI (EI (QO x))
structure Ac.Law {σ α:Type} (f:Ac σ α):Prop where
 same :∀ x s,f.get (f.put x s)=x
structure Ac.Apart {σ α:Type} (f g:Ac σ α):Prop where
 l :∀ x s,g.get (f.put x s)=g.get s
theorem aZ {α:Type} (r:Nat) :(d8 r:Ac (N8 α) α).Law:=by
 constructor
 intro x s
 unfold d8
 cases Nat.beq r 0
 case true=>rfl
 cases Nat.beq r 1
 case true=>rfl
 cases Nat.beq r 2
 case true=>rfl
 cases Nat.beq r 3
 case true=>rfl
 cases Nat.beq r 4
 case true=>rfl
 cases Nat.beq r 5
 case true=>rfl
 cases Nat.beq r 6
 case true=>rfl
 rfl
theorem cG {α:Type} :∀ {r s:Nat},r<8→s<8→r≠s→(d8 r:Ac (N8 α) α).Apart (d8 s):=by
 intro r s hr hs h
 constructor
 intro x n
 match r,s,hr,hs,h with
 | 0,0,_,_,h=>exact absurd rfl h
 | 0,1,_,_,h=>rfl
 | 0,2,_,_,h=>rfl
 | 0,3,_,_,h=>rfl
 | 0,4,_,_,h=>rfl
 | 0,5,_,_,h=>rfl
 | 0,6,_,_,h=>rfl
 | 0,7,_,_,h=>rfl
 | 1,0,_,_,h=>rfl
 | 1,1,_,_,h=>exact absurd rfl h
 | 1,2,_,_,h=>rfl
 | 1,3,_,_,h=>rfl
 | 1,4,_,_,h=>rfl
 | 1,5,_,_,h=>rfl
 | 1,6,_,_,h=>rfl
 | 1,7,_,_,h=>rfl
 | 2,0,_,_,h=>rfl
 | 2,1,_,_,h=>rfl
 | 2,2,_,_,h=>exact absurd rfl h
 | 2,3,_,_,h=>rfl
 | 2,4,_,_,h=>rfl
 | 2,5,_,_,h=>rfl
 | 2,6,_,_,h=>rfl
 | 2,7,_,_,h=>rfl
 | 3,0,_,_,h=>rfl
 | 3,1,_,_,h=>rfl
 | 3,2,_,_,h=>rfl
 | 3,3,_,_,h=>exact absurd rfl h
 | 3,4,_,_,h=>rfl
 | 3,5,_,_,h=>rfl
 | 3,6,_,_,h=>rfl
 | 3,7,_,_,h=>rfl
 | 4,0,_,_,h=>rfl
 | 4,1,_,_,h=>rfl
 | 4,2,_,_,h=>rfl
 | 4,3,_,_,h=>rfl
 | 4,4,_,_,h=>exact absurd rfl h
 | 4,5,_,_,h=>rfl
 | 4,6,_,_,h=>rfl
 | 4,7,_,_,h=>rfl
 | 5,0,_,_,h=>rfl
 | 5,1,_,_,h=>rfl
 | 5,2,_,_,h=>rfl
 | 5,3,_,_,h=>rfl
 | 5,4,_,_,h=>rfl
 | 5,5,_,_,h=>exact absurd rfl h
 | 5,6,_,_,h=>rfl
 | 5,7,_,_,h=>rfl
 | 6,0,_,_,h=>rfl
 | 6,1,_,_,h=>rfl
 | 6,2,_,_,h=>rfl
 | 6,3,_,_,h=>rfl
 | 6,4,_,_,h=>rfl
 | 6,5,_,_,h=>rfl
 | 6,6,_,_,h=>exact absurd rfl h
 | 6,7,_,_,h=>rfl
 | 7,0,_,_,h=>rfl
 | 7,1,_,_,h=>rfl
 | 7,2,_,_,h=>rfl
 | 7,3,_,_,h=>rfl
 | 7,4,_,_,h=>rfl
 | 7,5,_,_,h=>rfl
 | 7,6,_,_,h=>rfl
 | 7,7,_,_,h=>exact absurd rfl h
theorem GQ {s0 s1 s2 s3:Type} {f1:Ac s0 s1} {f2:Ac s1 s2} {f3:Ac s2 s3} (h1:f1.Law) (h2:f2.Law) (h3:f3.Law) :(Ac.comp3 f1 f2 f3).Law:=by
 constructor
 intro x s
 show f3.get (f2.get (f1.get ((Ac.comp3 f1 f2 f3).put x s)))=x
 show f3.get (f2.get (f1.get ((f1.put (f2.put (f3.put x (f2.get (f1.get s))) (f1.get s)) s))))=x
 rw [h1.same,h2.same,h3.same]
theorem yC {s0 s1 s2 s3:Type} {f1:Ac s0 s1} {f2:Ac s1 s2} {f3:Ac s2 s3} {g1:Ac s0 s1} {g2:Ac s1 s2} {g3:Ac s2 s3} (h:f1.Apart g1) :(Ac.comp3 f1 f2 f3).Apart (Ac.comp3 g1 g2 g3):=by
 constructor
 intro x s
 show g3.get (g2.get (g1.get ((f1.put (f2.put (f3.put x (f2.get (f1.get s))) (f1.get s)) s))))=g3.get (g2.get (g1.get (s)))
 rw [h.l]
theorem yD {s0 s1 s2 s3:Type} {f1:Ac s0 s1} {f2:Ac s1 s2} {f3:Ac s2 s3} {g2:Ac s1 s2} {g3:Ac s2 s3} (h1:f1.Law) (h:f2.Apart g2) :(Ac.comp3 f1 f2 f3).Apart (Ac.comp3 f1 g2 g3):=by
 constructor
 intro x s
 show g3.get (g2.get (f1.get ((f1.put (f2.put (f3.put x (f2.get (f1.get s))) (f1.get s)) s))))=g3.get (g2.get (f1.get (s)))
 rw [h1.same,h.l]
theorem yE {s0 s1 s2 s3:Type} {f1:Ac s0 s1} {f2:Ac s1 s2} {f3:Ac s2 s3} {g3:Ac s2 s3} (h1:f1.Law) (h2:f2.Law) (h:f3.Apart g3) :(Ac.comp3 f1 f2 f3).Apart (Ac.comp3 f1 f2 g3):=by
 constructor
 intro x s
 show g3.get (f2.get (f1.get ((f1.put (f2.put (f3.put x (f2.get (f1.get s))) (f1.get s)) s))))=g3.get (f2.get (f1.get (s)))
 rw [h1.same,h2.same,h.l]
theorem GR {s0 s1 s2 s3 s4:Type} {f1:Ac s0 s1} {f2:Ac s1 s2} {f3:Ac s2 s3} {f4:Ac s3 s4} (h1:f1.Law) (h2:f2.Law) (h3:f3.Law) (h4:f4.Law) :(Ac.comp4 f1 f2 f3 f4).Law:=by
 constructor
 intro x s
 show f4.get (f3.get (f2.get (f1.get ((Ac.comp4 f1 f2 f3 f4).put x s))))=x
 show f4.get (f3.get (f2.get (f1.get ((f1.put (f2.put (f3.put (f4.put x (f3.get (f2.get (f1.get s)))) (f2.get (f1.get s))) (f1.get s)) s)))))=x
 rw [h1.same,h2.same,h3.same,h4.same]
theorem yF {s0 s1 s2 s3 s4:Type} {f1:Ac s0 s1} {f2:Ac s1 s2} {f3:Ac s2 s3} {f4:Ac s3 s4} {g1:Ac s0 s1} {g2:Ac s1 s2} {g3:Ac s2 s3} {g4:Ac s3 s4} (h:f1.Apart g1) :(Ac.comp4 f1 f2 f3 f4).Apart (Ac.comp4 g1 g2 g3 g4):=by
 constructor
 intro x s
 show g4.get (g3.get (g2.get (g1.get ((f1.put (f2.put (f3.put (f4.put x (f3.get (f2.get (f1.get s)))) (f2.get (f1.get s))) (f1.get s)) s)))))=g4.get (g3.get (g2.get (g1.get (s))))
 rw [h.l]
theorem yG {s0 s1 s2 s3 s4:Type} {f1:Ac s0 s1} {f2:Ac s1 s2} {f3:Ac s2 s3} {f4:Ac s3 s4} {g2:Ac s1 s2} {g3:Ac s2 s3} {g4:Ac s3 s4} (h1:f1.Law) (h:f2.Apart g2) :(Ac.comp4 f1 f2 f3 f4).Apart (Ac.comp4 f1 g2 g3 g4):=by
 constructor
 intro x s
 show g4.get (g3.get (g2.get (f1.get ((f1.put (f2.put (f3.put (f4.put x (f3.get (f2.get (f1.get s)))) (f2.get (f1.get s))) (f1.get s)) s)))))=g4.get (g3.get (g2.get (f1.get (s))))
 rw [h1.same,h.l]
theorem yH {s0 s1 s2 s3 s4:Type} {f1:Ac s0 s1} {f2:Ac s1 s2} {f3:Ac s2 s3} {f4:Ac s3 s4} {g3:Ac s2 s3} {g4:Ac s3 s4} (h1:f1.Law) (h2:f2.Law) (h:f3.Apart g3) :(Ac.comp4 f1 f2 f3 f4).Apart (Ac.comp4 f1 f2 g3 g4):=by
 constructor
 intro x s
 show g4.get (g3.get (f2.get (f1.get ((f1.put (f2.put (f3.put (f4.put x (f3.get (f2.get (f1.get s)))) (f2.get (f1.get s))) (f1.get s)) s)))))=g4.get (g3.get (f2.get (f1.get (s))))
 rw [h1.same,h2.same,h.l]
theorem yI {s0 s1 s2 s3 s4:Type} {f1:Ac s0 s1} {f2:Ac s1 s2} {f3:Ac s2 s3} {f4:Ac s3 s4} {g4:Ac s3 s4} (h1:f1.Law) (h2:f2.Law) (h3:f3.Law) (h:f4.Apart g4) :(Ac.comp4 f1 f2 f3 f4).Apart (Ac.comp4 f1 f2 f3 g4):=by
 constructor
 intro x s
 show g4.get (f3.get (f2.get (f1.get ((f1.put (f2.put (f3.put (f4.put x (f3.get (f2.get (f1.get s)))) (f2.get (f1.get s))) (f1.get s)) s)))))=g4.get (f3.get (f2.get (f1.get (s))))
 rw [h1.same,h2.same,h3.same,h.l]
theorem GS {s0 s1 s2 s3 s4 s5 s6:Type} {f1:Ac s0 s1} {f2:Ac s1 s2} {f3:Ac s2 s3} {f4:Ac s3 s4} {f5:Ac s4 s5} {f6:Ac s5 s6} (h1:f1.Law) (h2:f2.Law) (h3:f3.Law) (h4:f4.Law) (h5:f5.Law) (h6:f6.Law) :(Ac.comp6 f1 f2 f3 f4 f5 f6).Law:=by
 constructor
 intro x s
 show f6.get (f5.get (f4.get (f3.get (f2.get (f1.get ((Ac.comp6 f1 f2 f3 f4 f5 f6).put x s))))))=x
 show f6.get (f5.get (f4.get (f3.get (f2.get (f1.get ((f1.put (f2.put (f3.put (f4.put (f5.put (f6.put x (f5.get (f4.get (f3.get (f2.get (f1.get s)))))) (f4.get (f3.get (f2.get (f1.get s))))) (f3.get (f2.get (f1.get s)))) (f2.get (f1.get s))) (f1.get s)) s)))))))=x
 rw [h1.same,h2.same,h3.same,h4.same,h5.same,h6.same]
theorem yJ {s0 s1 s2 s3 s4 s5 s6:Type} {f1:Ac s0 s1} {f2:Ac s1 s2} {f3:Ac s2 s3} {f4:Ac s3 s4} {f5:Ac s4 s5} {f6:Ac s5 s6} {g1:Ac s0 s1} {g2:Ac s1 s2} {g3:Ac s2 s3} {g4:Ac s3 s4} {g5:Ac s4 s5} {g6:Ac s5 s6} (h:f1.Apart g1) :(Ac.comp6 f1 f2 f3 f4 f5 f6).Apart (Ac.comp6 g1 g2 g3 g4 g5 g6):=by
 constructor
 intro x s
 show g6.get (g5.get (g4.get (g3.get (g2.get (g1.get ((f1.put (f2.put (f3.put (f4.put (f5.put (f6.put x (f5.get (f4.get (f3.get (f2.get (f1.get s)))))) (f4.get (f3.get (f2.get (f1.get s))))) (f3.get (f2.get (f1.get s)))) (f2.get (f1.get s))) (f1.get s)) s)))))))=g6.get (g5.get (g4.get (g3.get (g2.get (g1.get (s))))))
 rw [h.l]
theorem yK {s0 s1 s2 s3 s4 s5 s6:Type} {f1:Ac s0 s1} {f2:Ac s1 s2} {f3:Ac s2 s3} {f4:Ac s3 s4} {f5:Ac s4 s5} {f6:Ac s5 s6} {g2:Ac s1 s2} {g3:Ac s2 s3} {g4:Ac s3 s4} {g5:Ac s4 s5} {g6:Ac s5 s6} (h1:f1.Law) (h:f2.Apart g2) :(Ac.comp6 f1 f2 f3 f4 f5 f6).Apart (Ac.comp6 f1 g2 g3 g4 g5 g6):=by
 constructor
 intro x s
 show g6.get (g5.get (g4.get (g3.get (g2.get (f1.get ((f1.put (f2.put (f3.put (f4.put (f5.put (f6.put x (f5.get (f4.get (f3.get (f2.get (f1.get s)))))) (f4.get (f3.get (f2.get (f1.get s))))) (f3.get (f2.get (f1.get s)))) (f2.get (f1.get s))) (f1.get s)) s)))))))=g6.get (g5.get (g4.get (g3.get (g2.get (f1.get (s))))))
 rw [h1.same,h.l]
theorem yL {s0 s1 s2 s3 s4 s5 s6:Type} {f1:Ac s0 s1} {f2:Ac s1 s2} {f3:Ac s2 s3} {f4:Ac s3 s4} {f5:Ac s4 s5} {f6:Ac s5 s6} {g3:Ac s2 s3} {g4:Ac s3 s4} {g5:Ac s4 s5} {g6:Ac s5 s6} (h1:f1.Law) (h2:f2.Law) (h:f3.Apart g3) :(Ac.comp6 f1 f2 f3 f4 f5 f6).Apart (Ac.comp6 f1 f2 g3 g4 g5 g6):=by
 constructor
 intro x s
 show g6.get (g5.get (g4.get (g3.get (f2.get (f1.get ((f1.put (f2.put (f3.put (f4.put (f5.put (f6.put x (f5.get (f4.get (f3.get (f2.get (f1.get s)))))) (f4.get (f3.get (f2.get (f1.get s))))) (f3.get (f2.get (f1.get s)))) (f2.get (f1.get s))) (f1.get s)) s)))))))=g6.get (g5.get (g4.get (g3.get (f2.get (f1.get (s))))))
 rw [h1.same,h2.same,h.l]
theorem yM {s0 s1 s2 s3 s4 s5 s6:Type} {f1:Ac s0 s1} {f2:Ac s1 s2} {f3:Ac s2 s3} {f4:Ac s3 s4} {f5:Ac s4 s5} {f6:Ac s5 s6} {g4:Ac s3 s4} {g5:Ac s4 s5} {g6:Ac s5 s6} (h1:f1.Law) (h2:f2.Law) (h3:f3.Law) (h:f4.Apart g4) :(Ac.comp6 f1 f2 f3 f4 f5 f6).Apart (Ac.comp6 f1 f2 f3 g4 g5 g6):=by
 constructor
 intro x s
 show g6.get (g5.get (g4.get (f3.get (f2.get (f1.get ((f1.put (f2.put (f3.put (f4.put (f5.put (f6.put x (f5.get (f4.get (f3.get (f2.get (f1.get s)))))) (f4.get (f3.get (f2.get (f1.get s))))) (f3.get (f2.get (f1.get s)))) (f2.get (f1.get s))) (f1.get s)) s)))))))=g6.get (g5.get (g4.get (f3.get (f2.get (f1.get (s))))))
 rw [h1.same,h2.same,h3.same,h.l]
theorem yN {s0 s1 s2 s3 s4 s5 s6:Type} {f1:Ac s0 s1} {f2:Ac s1 s2} {f3:Ac s2 s3} {f4:Ac s3 s4} {f5:Ac s4 s5} {f6:Ac s5 s6} {g5:Ac s4 s5} {g6:Ac s5 s6} (h1:f1.Law) (h2:f2.Law) (h3:f3.Law) (h4:f4.Law) (h:f5.Apart g5) :(Ac.comp6 f1 f2 f3 f4 f5 f6).Apart (Ac.comp6 f1 f2 f3 f4 g5 g6):=by
 constructor
 intro x s
 show g6.get (g5.get (f4.get (f3.get (f2.get (f1.get ((f1.put (f2.put (f3.put (f4.put (f5.put (f6.put x (f5.get (f4.get (f3.get (f2.get (f1.get s)))))) (f4.get (f3.get (f2.get (f1.get s))))) (f3.get (f2.get (f1.get s)))) (f2.get (f1.get s))) (f1.get s)) s)))))))=g6.get (g5.get (f4.get (f3.get (f2.get (f1.get (s))))))
 rw [h1.same,h2.same,h3.same,h4.same,h.l]
theorem yO {s0 s1 s2 s3 s4 s5 s6:Type} {f1:Ac s0 s1} {f2:Ac s1 s2} {f3:Ac s2 s3} {f4:Ac s3 s4} {f5:Ac s4 s5} {f6:Ac s5 s6} {g6:Ac s5 s6} (h1:f1.Law) (h2:f2.Law) (h3:f3.Law) (h4:f4.Law) (h5:f5.Law) (h:f6.Apart g6) :(Ac.comp6 f1 f2 f3 f4 f5 f6).Apart (Ac.comp6 f1 f2 f3 f4 f5 g6):=by
 constructor
 intro x s
 show g6.get (f5.get (f4.get (f3.get (f2.get (f1.get ((f1.put (f2.put (f3.put (f4.put (f5.put (f6.put x (f5.get (f4.get (f3.get (f2.get (f1.get s)))))) (f4.get (f3.get (f2.get (f1.get s))))) (f3.get (f2.get (f1.get s)))) (f2.get (f1.get s))) (f1.get s)) s)))))))=g6.get (f5.get (f4.get (f3.get (f2.get (f1.get (s))))))
 rw [h1.same,h2.same,h3.same,h4.same,h5.same,h.l]
theorem hJ {α:Type} (i:Nat) (x:α) (s:T3 α) :(cC i).get ((cC i).put x s)=x:=(GQ (aZ _) (aZ _) (aZ _)).same x s
theorem E6 {α:Type} {i j:Nat} (hi:i<512) (hj:j<512) (h:i≠j) (x:α) (s:T3 α) :(cC j).get ((cC i).put x s) =(cC j).get s:=by
 unfold cC
 by_cases e1:dig i 64=dig j 64
 case neg=>exact (yC (cG (Nat.mod_lt _ (by decide)) (Nat.mod_lt _ (by decide)) e1)).l x s
 by_cases e2:dig i 8=dig j 8
 case neg=>rw [←e1];exact (yD (aZ _) (cG (Nat.mod_lt _ (by decide)) (Nat.mod_lt _ (by decide)) e2)).l x s
 by_cases e3:dig i 1=dig j 1
 case neg=>rw [←e1,←e2];exact (yE (aZ _) (aZ _) (cG (Nat.mod_lt _ (by decide)) (Nat.mod_lt _ (by decide)) e3)).l x s
 exfalso
 have q1:i / 64 % 8=j / 64 % 8:=e1
 have q2:i / 8 % 8=j / 8 % 8:=e2
 have q3:i / 1 % 8=j / 1 % 8:=e3
 omega
theorem Gz {α:Type} (i:Nat) (x:α) (s:T4 α) :(vf i).get ((vf i).put x s)=x:=(GR (aZ _) (aZ _) (aZ _) (aZ _)).same x s
theorem Lr {α:Type} {i j:Nat} (hi:i<4096) (hj:j<4096) (h:i≠j) (x:α) (s:T4 α) :(vf j).get ((vf i).put x s) =(vf j).get s:=by
 unfold vf
 by_cases e1:dig i 512=dig j 512
 case neg=>exact (yF (cG (Nat.mod_lt _ (by decide)) (Nat.mod_lt _ (by decide)) e1)).l x s
 by_cases e2:dig i 64=dig j 64
 case neg=>rw [←e1];exact (yG (aZ _) (cG (Nat.mod_lt _ (by decide)) (Nat.mod_lt _ (by decide)) e2)).l x s
 by_cases e3:dig i 8=dig j 8
 case neg=>rw [←e1,←e2];exact (yH (aZ _) (aZ _) (cG (Nat.mod_lt _ (by decide)) (Nat.mod_lt _ (by decide)) e3)).l x s
 by_cases e4:dig i 1=dig j 1
 case neg=>rw [←e1,←e2,←e3];exact (yI (aZ _) (aZ _) (aZ _) (cG (Nat.mod_lt _ (by decide)) (Nat.mod_lt _ (by decide)) e4)).l x s
 exfalso
 have q1:i / 512 % 8=j / 512 % 8:=e1
 have q2:i / 64 % 8=j / 64 % 8:=e2
 have q3:i / 8 % 8=j / 8 % 8:=e3
 have q4:i / 1 % 8=j / 1 % 8:=e4
 omega
theorem GA {α:Type} (i:Nat) (x:α) (s:T6 α) :(yt i).get ((yt i).put x s)=x:=(GS (aZ _) (aZ _) (aZ _) (aZ _) (aZ _) (aZ _)).same x s
theorem Ls {α:Type} {i j:Nat} (hi:i<262144) (hj:j<262144) (h:i≠j) (x:α) (s:T6 α) :(yt j).get ((yt i).put x s) =(yt j).get s:=by
 unfold yt
 by_cases e1:dig i 32768=dig j 32768
 case neg=>exact (yJ (cG (Nat.mod_lt _ (by decide)) (Nat.mod_lt _ (by decide)) e1)).l x s
 by_cases e2:dig i 4096=dig j 4096
 case neg=>rw [←e1];exact (yK (aZ _) (cG (Nat.mod_lt _ (by decide)) (Nat.mod_lt _ (by decide)) e2)).l x s
 by_cases e3:dig i 512=dig j 512
 case neg=>rw [←e1,←e2];exact (yL (aZ _) (aZ _) (cG (Nat.mod_lt _ (by decide)) (Nat.mod_lt _ (by decide)) e3)).l x s
 by_cases e4:dig i 64=dig j 64
 case neg=>rw [←e1,←e2,←e3];exact (yM (aZ _) (aZ _) (aZ _) (cG (Nat.mod_lt _ (by decide)) (Nat.mod_lt _ (by decide)) e4)).l x s
 by_cases e5:dig i 8=dig j 8
 case neg=>rw [←e1,←e2,←e3,←e4];exact (yN (aZ _) (aZ _) (aZ _) (aZ _) (cG (Nat.mod_lt _ (by decide)) (Nat.mod_lt _ (by decide)) e5)).l x s
 by_cases e6:dig i 1=dig j 1
 case neg=>rw [←e1,←e2,←e3,←e4,←e5];exact (yO (aZ _) (aZ _) (aZ _) (aZ _) (aZ _) (cG (Nat.mod_lt _ (by decide)) (Nat.mod_lt _ (by decide)) e6)).l x s
 exfalso
 have q1:i / 32768 % 8=j / 32768 % 8:=e1
 have q2:i / 4096 % 8=j / 4096 % 8:=e2
 have q3:i / 512 % 8=j / 512 % 8:=e3
 have q4:i / 64 % 8=j / 64 % 8:=e4
 have q5:i / 8 % 8=j / 8 % 8:=e5
 have q6:i / 1 % 8=j / 1 % 8:=e6
 omega
theorem kC {α:Type} (r:Nat) (x:α) :(d8 r:Ac (N8 α) α).get (EI x)=x:=by
 unfold d8
 cases Nat.beq r 0
 case true=>rfl
 cases Nat.beq r 1
 case true=>rfl
 cases Nat.beq r 2
 case true=>rfl
 cases Nat.beq r 3
 case true=>rfl
 cases Nat.beq r 4
 case true=>rfl
 cases Nat.beq r 5
 case true=>rfl
 cases Nat.beq r 6
 case true=>rfl
 rfl
theorem HU {α:Type} (i:Nat) (x:α) :(cC i).get (Hv x)=x:=by
 show (d8 _).get ((d8 _).get ((d8 _).get (Hv x)))=x
 unfold Hv
 rw [kC,kC,kC]
theorem HV {α:Type} (i:Nat) (x:α) :(yt i).get (MU x)=x:=by
 show (d8 _).get ((d8 _).get ((d8 _).get ((d8 _).get ((d8 _).get ((d8 _).get (MU x))))))=x
 unfold MU QO Hv
 rw [kC,kC,kC,kC,kC,kC]
end
end
section
open Go.RowKit
noncomputable section
inductive C where
 | int (k:IntKind) (n:Int)
 | kb (b:Bool)
 | ptr (h o:Nat)
 | gp (h v o:Nat)
 | gsl (h v e o l:Nat)
 | oth (v:V)
abbrev CT:=T4 C
inductive W where
 | c (x:C)
 | agg (t:CT) (n:Nat)
inductive U where
 | int (k:IntKind) (n:Int)
 | kb (b:Bool)
 | ptr (h o:Nat)
 | gp (h v o:Nat)
 | gsl (h v e o l:Nat)
 | oth (v:V)
 | agg (t:CT) (n:Nat)
 | tup (l:List W)
inductive Bk where
 | none
 | cells (t:CT) (n:Nat)
 | grow (ver esz:Nat) (t:CT) (n:Nat)
 | mp (es:List (V×V))
abbrev TM:=T3 U
abbrev HP:=T6 Bk
def tm0:TM:=Hv (.oth .any)
def hp0:HP:=MU .none
def ct0:CT:=QO (.oth .any)
inductive Rv where
 | go (e:Lf) (tm:TM) (hp:HP) (nx:Nat)
 | no (w:List Nat)
inductive Rf where
 | ok (u:U) (hp:HP) (nx:Nat)
 | ex (u:U) (hp:HP) (nx:Nat)
 | no (w:List Nat)
abbrev KR:=TM→HP→Nat→Rv
abbrev eK:=FuncId→List U→HP→Nat→Rf
def C.toV:C→V
 | .int k n=> .int k n
 | .kb b=> .kb b
 | .ptr h o=> .ptr h o
 | .gp h v o=> .gp h v o
 | .gsl h v e o l=> .gsl h v e o l
 | .oth v=>v
def cb (t:CT) (i:Nat):C:=Ac.rec (motive:=fun _=>CT→C) (fun g _=>g) (vf i) t
def dN (t:CT) (i:Nat) (x:C):CT:=Ac.rec (motive:=fun _=>C→CT→CT) (fun _ p=>p) (vf i) x t
def Me:Nat:=4096
def Md:Nat:=262144
def AX (h:Nat):Ac HP Bk:=Bool.rec (motive:=fun _=>Ac HP Bk) ⟨fun _=> .none,fun _ s=>s⟩ (yt h) (Nat.ble (Nat.succ h) 262144)
def bd (hp:HP) (h:Nat):Bk:=Ac.rec (motive:=fun _=>HP→Bk) (fun g _=>g) (AX h) hp
def dq (hp:HP) (h:Nat) (b:Bk):HP:=Ac.rec (motive:=fun _=>Bk→HP→HP) (fun _ p=>p) (AX h) b hp
def uV (t:CT):Nat→Nat→List V
 | 0,_=> []
 | n+1,i=>(cb t i).toV::uV t n (i+1)
def toL (t:CT) (n:Nat):List V:=uV t n 0
def GK (v:V):C:=match v with
 | .int k n=> .int k n
 | .kb b=> .kb b
 | .ptr h o=> .ptr h o
 | .gp h v o=> .gp h v o
 | .gsl h v e o l=> .gsl h v e o l
 | v=> .oth v
def Qt:List V→Nat→CT→CT:=List.rec (motive:=fun _=>Nat→CT→CT) (fun _ t=>t) (fun v _ ih i t=>ih (Nat.succ i) (dN t i (GK v)))
def ofL (l:List V):CT:=Qt l 0 ct0
def W.toV:W→V
 | .c x=>x.toV
 | .agg t n=> .agg (toL t n)
def U.toV:U→V
 | .int k n=> .int k n
 | .kb b=> .kb b
 | .ptr h o=> .ptr h o
 | .gp h v o=> .gp h v o
 | .gsl h v e o l=> .gsl h v e o l
 | .oth v=>v
 | .agg t n=> .agg (toL t n)
 | .tup l=> .tup (l.map W.toV)
def Bk.toB:Bk→Option Blk
 | .none=>Option.none
 | .cells t n=>some (.cells (toL t n))
 | .grow v e t n=>some (.grow v e (toL t n))
 | .mp es=>some (.mp es)
def V.isOne (v:V):Bool:=
 V.rec (motive_1:=fun _=>Bool) (motive_2:=fun _=>Unit) false (fun _ _=>true) (fun _=>true) (fun _=>true) (fun _ _=>false) (fun _=>true) true (fun _ _=>true) (fun _ _ _ _=>true) (fun _ _ _ _=>true) true true (fun _ _=>true) (fun _ _=>true) (fun _ _ _ _ _=>true) (fun _ _ _=>true) (fun _=>true) (fun _ _=>true) true true (fun _ _ _=>true) (fun _cs _ih=>false) (fun _cs _ih=>false) () (fun _ _ _ _=>()) v
def Di (l:List V):Bool:=List.rec (motive:=fun _=>Bool) true (fun v _ ih=>Bool.rec false ih v.isOne) l
def gr (l:List V):Bool:=Bool.rec false (Nat.ble l.length Me) (Di l)
def ku (v:V):U:=match v with
 | .int k n=> .int k n
 | .kb b=> .kb b
 | .bool b=> .kb b
 | .ptr h o=> .ptr h o
 | .gp h v o=> .gp h v o
 | .gsl h v e o l=> .gsl h v e o l
 | .agg cs=>Bool.rec (.oth .any) (.agg (ofL cs) cs.length) (gr cs)
 | .tup vs=> .tup (vs.map fun v=>match v with
  | .agg cs=>Bool.rec (.c (.oth .any)) (.agg (ofL cs) cs.length) (gr cs)
  | .bool b=> .c (.kb b)
  | v=> .c (GK v))
 | v=> .oth v
def cU:C→U:=C.rec (motive:=fun _=>U) .int .kb .ptr .gp .gsl .oth
def wU:W→U:=W.rec (motive:=fun _=>U) cU .agg
def C8:U→(IntKind→Int→Rv)→Rv→Rv:=U.rec (motive:=fun _=>(IntKind→Int→Rv)→Rv→Rv) (fun k n f _sl=>f k n) (fun _ _ sl=>sl) (fun _ _ _ sl=>sl) (fun _ _ _ _ sl=>sl) (fun _ _ _ _ _ _ sl=>sl) (fun _ _ sl=>sl) (fun _ _ _ sl=>sl) (fun _ _ sl=>sl)
def uKb:U→(Bool→Rv)→Rv→Rv:=U.rec (motive:=fun _=>(Bool→Rv)→Rv→Rv) (fun _ _ _ sl=>sl) (fun b f _sl=>f b) (fun _ _ _ sl=>sl) (fun _ _ _ _ sl=>sl) (fun _ _ _ _ _ _ sl=>sl) (fun _ _ sl=>sl) (fun _ _ _ sl=>sl) (fun _ _ sl=>sl)
def E5:U→(Nat→Nat→Rv)→(Nat→Nat→Nat→Rv)→Rv→Rv:=U.rec (motive:=fun _=>(Nat→Nat→Rv)→(Nat→Nat→Nat→Rv)→Rv→Rv) (fun _ _ _ _ sl=>sl) (fun _ _ _ sl=>sl) (fun h o f _ _sl=>f h o) (fun h v o _ g _sl=>g h v o) (fun _ _ _ _ _ _ _ sl=>sl) (fun _ _ _ sl=>sl) (fun _ _ _ _ sl=>sl) (fun _ _ _ sl=>sl)
def Sa:U→(Nat→Nat→Nat→Nat→Nat→Rv)→Rv→Rv:=U.rec (motive:=fun _=>(Nat→Nat→Nat→Nat→Nat→Rv)→Rv→Rv) (fun _ _ _ sl=>sl) (fun _ _ sl=>sl) (fun _ _ _ sl=>sl) (fun _ _ _ _ sl=>sl) (fun h v e o l f _sl=>f h v e o l) (fun _ _ sl=>sl) (fun _ _ _ sl=>sl) (fun _ _ sl=>sl)
def U7 (v:V) (a b sl:Rv):Rv:=match v with
 | .nilsl=>a
 | .esl=>b
 | _=>sl
def uSl:U→Rv→Rv→(Nat→Nat→Nat→Nat→Nat→Rv)→Rv→Rv:=U.rec (motive:=fun _=>Rv→Rv→(Nat→Nat→Nat→Nat→Nat→Rv)→Rv→Rv) (fun _ _ _ _ _ sl=>sl) (fun _ _ _ _ sl=>sl) (fun _ _ _ _ _ sl=>sl) (fun _ _ _ _ _ _ sl=>sl) (fun h v e o l _ _ f _sl=>f h v e o l) (fun v a b _ sl=>U7 v a b sl) (fun _ _ _ _ _ sl=>sl) (fun _ _ _ _ sl=>sl)
def vFn (v:V) (k:FuncId→List V→Rv) (sl:Rv):Rv:=match v with
 | .fn f cs=>k f cs
 | _=>sl
def uFn:U→(FuncId→List V→Rv)→Rv→Rv:=U.rec (motive:=fun _=>(FuncId→List V→Rv)→Rv→Rv) (fun _ _ _ sl=>sl) (fun _ _ sl=>sl) (fun _ _ _ sl=>sl) (fun _ _ _ _ sl=>sl) (fun _ _ _ _ _ _ sl=>sl) (fun v f sl=>vFn v f sl) (fun _ _ _ sl=>sl) (fun _ _ sl=>sl)
def Nh (v:V) (k sl:Rv):Rv:=Bool.rec (motive:=fun _=>Rv) sl k v.isOne
def uC:U→(C→Rv)→Rv→Rv:=U.rec (motive:=fun _=>(C→Rv)→Rv→Rv) (fun k n f _sl=>f (.int k n)) (fun b f _sl=>f (.kb b)) (fun h o f _sl=>f (.ptr h o)) (fun h v o f _sl=>f (.gp h v o)) (fun h v e o l f _sl=>f (.gsl h v e o l)) (fun v f sl=>Nh v (f (.oth v)) sl) (fun _ _ _ sl=>sl) (fun _ _ sl=>sl)
def Nf:U→(CT→Nat→Rv)→Rv→Rv:=U.rec (motive:=fun _=>(CT→Nat→Rv)→Rv→Rv) (fun _ _ _ sl=>sl) (fun _ _ sl=>sl) (fun _ _ _ sl=>sl) (fun _ _ _ _ sl=>sl) (fun _ _ _ _ _ _ sl=>sl) (fun _ _ sl=>sl) (fun t n f _sl=>f t n) (fun _ _ sl=>sl)
def Ud:U→(List W→Rv)→Rv→Rv:=U.rec (motive:=fun _=>(List W→Rv)→Rv→Rv) (fun _ _ _ sl=>sl) (fun _ _ sl=>sl) (fun _ _ _ sl=>sl) (fun _ _ _ _ sl=>sl) (fun _ _ _ _ _ _ sl=>sl) (fun _ _ sl=>sl) (fun _ _ _ sl=>sl) (fun l f _sl=>f l)
def uCA:U→(C→Rv)→(CT→Nat→Rv)→Rv→Rv:=U.rec (motive:=fun _=>(C→Rv)→(CT→Nat→Rv)→Rv→Rv) (fun k n f _ _sl=>f (.int k n)) (fun b f _ _sl=>f (.kb b)) (fun h o f _ _sl=>f (.ptr h o)) (fun h v o f _ _sl=>f (.gp h v o)) (fun h v e o l f _ _sl=>f (.gsl h v e o l)) (fun v f _ sl=>Nh v (f (.oth v)) sl) (fun t n _ g _sl=>g t n) (fun _ _ _ sl=>sl)
def Ua:U→Rv→Rv→Rv→Rv:=U.rec (motive:=fun _=>Rv→Rv→Rv→Rv) (fun _ _ _ _ sl=>sl) (fun b y n _=>Bool.rec (motive:=fun _=>Rv) n y b) (fun _ _ _ _ sl=>sl) (fun _ _ _ _ _ sl=>sl) (fun _ _ _ _ _ _ _ sl=>sl) (fun _ _ _ sl=>sl) (fun _ _ _ _ sl=>sl) (fun l _ n sl=>List.rec (motive:=fun _=>Rv) n (fun _ _ _=>sl) l)
def T9:U→Rv→Rv→Rv→Rv:=U.rec (motive:=fun _=>Rv→Rv→Rv→Rv) (fun _ _ _ _ sl=>sl) (fun b y n _=>Bool.rec (motive:=fun _=>Rv) y n b) (fun _ _ _ _ sl=>sl) (fun _ _ _ _ _ sl=>sl) (fun _ _ _ _ _ _ _ sl=>sl) (fun _ _ _ sl=>sl) (fun _ _ _ _ sl=>sl) (fun l _ n sl=>List.rec (motive:=fun _=>Rv) n (fun _ _ _=>sl) l)
def ckR (b:Bool) (r sl:Rv):Rv:=Bool.rec (motive:=fun _=>Rv) sl r b
def bkC:Bk→(CT→Nat→Rv)→Rv→Rv:=Bk.rec (motive:=fun _=>(CT→Nat→Rv)→Rv→Rv) (fun _ sl=>sl) (fun t n k _=>k t n) (fun _ _ _ _ _ sl=>sl) (fun _ _ sl=>sl)
def bkG:Bk→(Nat→Nat→CT→Nat→Rv)→Rv→Rv:=Bk.rec (motive:=fun _=>(Nat→Nat→CT→Nat→Rv)→Rv→Rv) (fun _ sl=>sl) (fun _ _ _ sl=>sl) (fun v e t n k _=>k v e t n) (fun _ _ sl=>sl)
def eB (n:Nat) :(Nat→Rv)→Rv:=Nat.rec (motive:=fun _=>(Nat→Rv)→Rv) (fun k=>k 0) (fun n _ k=>k (Nat.succ n)) n
def Kg:Int→(Nat→Rv)→Rv→Rv:=Int.rec (motive:=fun _=>(Nat→Rv)→Rv→Rv) (fun n k _=>k n) (fun _ _ sl=>sl)
def p7 (dst:CT) (d:Nat) (src:CT) (s n:Nat):CT:=Nat.rec (motive:=fun _=>CT) dst (fun i acc=>dN acc (Nat.add d i) (cb src (Nat.add s i))) n
inductive TI where
 | no
 | one
 | agg (n:Nat)
def tyI (tb:Tbl) (t:TypeId):TI:=match tb t with
 | some td=>if td.kind.agg then .agg td.size else if td.size=1 then .one else .no
 | none=> .no
def LU (tb:Tbl) (t:TypeId) (f:Nat):Option Nat:=match tb t with
 | some td=>match td.kind with
  | .struct fs=>match fs[f]? with
   | some (o,ft)=>match tb ft with
    | some tf=>if tf.size=0 then none else some o
    | none=>none
   | none=>none
  | _=>none
 | none=>none
inductive FVI where
 | no
 | at (o:Nat) (i:TI)
def Pk (tb:Tbl) (t:TypeId) (f:Nat):FVI:=match tb t with
 | some td=>match td.kind with
  | .struct fs=>match fs[f]? with
   | some (o,ft)=> .at o (tyI tb ft)
   | none=> .no
  | _=> .no
 | none=> .no
inductive IXI where
 | no
 | sl (esz:Nat)
 | ar (len esz:Nat)
def L2 (tb:Tbl) (t:TypeId):IXI:=match tb t with
 | some td=>match td.kind with
  | .slice e=>match tb e with|some te=> .sl te.size|none=> .no
  | .arr len e=>match tb e with|some te=> .ar len te.size|none=> .no
  | _=> .no
 | none=> .no
inductive IVI where
 | no
 | at (len esz:Nat) (i:TI)
def Py (tb:Tbl) (t:TypeId):IVI:=match tb t with
 | some td=>match td.kind with
  | .arr len e=>match tb e with|some te=> .at len te.size (tyI tb e)|none=> .no
  | _=> .no
 | none=> .no
inductive ZTI where
 | no
 | at (t:CT) (n:Nat)
def yl (tb:Tbl) (t:TypeId):ZTI:=match tb t with
 | some td=>bif gr td.zero then .at (ofL td.zero) td.zero.length else .no
 | none=> .no
def cvI (tb:Tbl) (s d:TypeId):Option IntKind:=match tb s,tb d with
 | some ts,some td=>match ts.kind,td.kind with
  | .int _,.int k=>some k
  | _,_=>none
 | _,_=>none
inductive PI where
 | no
 | at (o size:Nat)
def Kd (tb:Tbl) (t:TypeId) (i:Nat):PI:=match tb t with
 | some td=>match td.kind with
  | .struct fs=>match fs[i]? with
   | some (o,ft)=>match tb ft with
    | some tf=> .at o tf.size
    | none=> .no
   | none=> .no
  | .arr _ e=>match tb e with
   | some te=> .at (i*te.size) te.size
   | none=> .no
  | _=> .no
 | none=> .no
def yw (tb:Tbl) (t:TypeId):Bool:=match tb t with
 | some td=>match td.kind with
  | .struct fs=>fs.all fun q=>(tb q.2).isSome
  | .arr _ e=>(tb e).isSome
  | _=>false
 | none=>false
inductive SLI where
 | no
 | at (esz:Nat) (t:CT) (n:Nat)
def OW (tb:Tbl) (t:TypeId) (n:Nat):SLI:=match tb t with
 | some td=>match td.kind with
  | .slice e=>match tb e with
   | some te=>if te.ty.isNone=true∧n≤1000∧te.size≤1000∧te.zero.length=te.size∧gr (nz te.zero n)=true then .at te.size (ofL (nz te.zero n)) (n*te.size) else .no
   | none=> .no
  | _=> .no
 | none=> .no
inductive API where
 | no
 | at (esz bytes:Nat)
def OS (tb:Tbl) (c:Call):API:=match c.argTypes.toList with
 | [t,t2]=>match tb t,tb t2 with
  | some td,some td2=>match td.kind with
   | .slice e=>match tb e with
    | some te=>if (jy tb td2).isSome=true∧te.ty.isNone=true∧0<te.bytes∧te.bytes≤1000∧te.zero.length=te.size then .at te.size te.bytes else .no
    | none=> .no
   | _=> .no
  | _,_=> .no
 | _=> .no
def Ja (tb:Tbl) (c:Call):Bool:=match c.argTypes.toList with
 | [t]=>match tb t with
  | some td=>I9 td.kind
  | none=>false
 | _=>false
def R8 (tb:Tbl) (t:TypeId):Bool:=match tb t with
 | some _=>true
 | none=>false
def Q5 (tb:Tbl) (t:TypeId):Option Nat:=match tb t with
 | some td=>jy tb td
 | none=>none
def mxK (k:IntKind):Nat:=IntKind.rec (motive:=fun _=>Nat) 127 32767 2147483647 9223372036854775807 255 65535 4294967295 18446744073709551615 k
def ikN (k:IntKind):Nat:=IntKind.rec (motive:=fun _=>Nat) 0 1 2 3 4 5 6 7 k
def Pr (k k':IntKind):Bool:=Nat.beq (ikN k) (ikN k')
def Qr (a b:Int) (f:Nat→Nat→Int) (g:Int):Int:=Int.rec (motive:=fun _=>Int) (fun x=>Int.rec (motive:=fun _=>Int) (fun y=>f x y) (fun _=>g) b) (fun _=>g) a
def Qq (a b:Int) (f:Nat→Nat→Bool) (g:Bool):Bool:=Int.rec (motive:=fun _=>Bool) (fun x=>Int.rec (motive:=fun _=>Bool) (fun y=>f x y) (fun _=>g) b) (fun _=>g) a
def Qs (a b:Int) (f:Nat→Nat→Rv) (g:Rv):Rv:=Int.rec (motive:=fun _=>Rv) (fun x=>Int.rec (motive:=fun _=>Rv) (fun y=>f x y) (fun _=>g) b) (fun _=>g) a
def zi (k:IntKind) (n:Nat) (s:Int):Int:=Bool.rec (motive:=fun _=>Int) s (.ofNat n) (Nat.ble n (mxK k))
def OO (k:IntKind) (a b:Int):Int:=Qr a b (fun x y=>zi k (Nat.add x y) (k.wrap (a+b))) (k.wrap (a+b))
def RW (k:IntKind) (a b:Int):Int:=Qr a b (fun x y=>Bool.rec (motive:=fun _=>Int) (k.wrap (a - b)) (zi k (Nat.sub x y) (k.wrap (a - b))) (Nat.ble y x)) (k.wrap (a - b))
def Qo (k:IntKind) (a b:Int):Int:=Qr a b (fun x y=>zi k (Nat.mul x y) (k.wrap (a*b))) (k.wrap (a*b))
def cvS (k:IntKind) (a:Int):Int:=Int.rec (motive:=fun _=>Int) (fun x=>zi k x (k.wrap a)) (fun _=>k.wrap a) a
def eqS (a b:Int):Bool:=Qq a b (fun x y=>Nat.beq x y) (a==b)
def ltS (a b:Int):Bool:=Qq a b (fun x y=>Nat.ble (Nat.succ x) y) (decide (a<b))
def leS (a b:Int):Bool:=Qq a b (fun x y=>Nat.ble x y) (decide (a≤b))
def iJ (b:Bool):Bool:=Bool.rec (motive:=fun _=>Bool) true false b
def SD (ik:IntKind) (a b:Int) (k:U→Rv) (_:Rv):Rv:=k (.int ik (OO ik a b))
def SI (ik:IntKind) (a b:Int) (k:U→Rv) (_:Rv):Rv:=k (.int ik (RW ik a b))
def SF (ik:IntKind) (a b:Int) (k:U→Rv) (_:Rv):Rv:=k (.int ik (Qo ik a b))
def SG (ik:IntKind) (a b:Int) (k:U→Rv) (sl:Rv):Rv:=Qs a b (fun x y=>ckR (Nat.ble 1 y) (k (.int ik (zi ik (Nat.div x y) (ik.wrap (a.tdiv b))))) sl) sl
def SH (ik:IntKind) (a b:Int) (k:U→Rv) (sl:Rv):Rv:=Qs a b (fun x y=>ckR (Nat.ble 1 y) (k (.int ik (.ofNat (Nat.mod x y)))) sl) sl
def fEq (_:IntKind) (a b:Int) (k:U→Rv) (_:Rv):Rv:=k (.kb (eqS a b))
def fNe (_:IntKind) (a b:Int) (k:U→Rv) (_:Rv):Rv:=k (.kb (iJ (eqS a b)))
def fLt (_:IntKind) (a b:Int) (k:U→Rv) (_:Rv):Rv:=k (.kb (ltS a b))
def fLe (_:IntKind) (a b:Int) (k:U→Rv) (_:Rv):Rv:=k (.kb (leS a b))
def fGt (_:IntKind) (a b:Int) (k:U→Rv) (_:Rv):Rv:=k (.kb (ltS b a))
def fGe (_:IntKind) (a b:Int) (k:U→Rv) (_:Rv):Rv:=k (.kb (leS b a))
def Hj (m:Nat) (hp:HP) (b:Bk) (u:U) (k:U→HP→Rv) (sl:Rv):Rv:=ckR (Nat.ble (Nat.succ m) Md) (k u (dq hp m b)) sl
def UC (x:U) (hp:HP) (m:Nat) (k:U→HP→Rv) (sl:Rv):Rv:=uCA x (fun c=>Hj m hp (.cells (dN ct0 0 c) 1) (.ptr m 0) k sl) (fun t n=>Hj m hp (.cells t n) (.ptr m 0) k sl) sl
abbrev LdF:=CT→Nat→Nat→(U→Rv)→Rv→Rv
def BU:LdF:=fun ct n off k sl=>ckR (Nat.ble (Nat.succ off) n) (k (cU (cb ct off))) sl
def BT (m:Nat):LdF:=fun ct n off k sl=>ckR (Nat.ble (Nat.add off m) n) (Bool.rec (motive:=fun _=>Rv) (k (.agg (p7 ct0 0 ct off m) m)) (k (.agg ct n)) (Nat.beq m n)) sl
def ldG (ld:LdF) (a:U) (hp:HP) (k:U→Rv) (sl:Rv):Rv:=E5 a (fun h o=>bkC (bd hp h) (fun ct n=>ld ct n o k sl) sl) (fun h v o=>bkG (bd hp h) (fun v' _ ct n=>ckR (Nat.beq v v') (ld ct n o k sl) sl) sl) sl
abbrev StF:=U→CT→Nat→Nat→(CT→Rv)→Rv→Rv
def Oc:StF:=fun x ct n off k sl=>ckR (Nat.ble (Nat.succ off) n) (uC x (fun c=>k (dN ct off c)) sl) sl
def Oa (m:Nat):StF:=fun x ct n off k sl=>Nf x (fun xt m'=>ckR (Nat.beq m m') (ckR (Nat.ble (Nat.add off m) n) (Bool.rec (motive:=fun _=>Rv) (k (p7 ct off xt 0 m)) (k xt) (Nat.beq m n)) sl) sl) sl
def stG (st:StF) (a x:U) (hp:HP) (k:U→HP→Rv) (sl:Rv):Rv:=E5 a (fun h o=>bkC (bd hp h) (fun ct n=>st x ct n o (fun ct=>k (.tup []) (dq hp h (.cells ct n))) sl) sl) (fun h v o=>bkG (bd hp h) (fun v' e ct n=>ckR (Nat.beq v v') (st x ct n o (fun ct=>k (.tup []) (dq hp h (.grow v e ct n))) sl) sl) sl) sl
def faG (d:Nat) (x:U) (k:U→Rv) (sl:Rv):Rv:=E5 x (fun h o=>k (.ptr h (Nat.add o d))) (fun h v o=>k (.gp h v (Nat.add o d))) sl
def fvG (o:Nat) (ld:LdF) (x:U) (k:U→Rv) (sl:Rv):Rv:=Nf x (fun ct n=>ld ct n o k sl) sl
def UN (esz:Nat) (x i:U) (hp:HP) (k:U→Rv) (sl:Rv):Rv:=C8 i (fun _ n=>Kg n (fun m=>Sa x (fun h v e o l=>ckR (Nat.ble (Nat.succ m) l) (bkG (bd hp h) (fun v' e' _ _=>ckR (Nat.beq v v') (ckR (Nat.beq esz e) (ckR (Nat.beq e e') (k (.gp h v (Nat.mul (Nat.add o m) e))) sl) sl) sl) sl) sl) sl) sl) sl
def UM (l esz:Nat) (x i:U) (k:U→Rv) (sl:Rv):Rv:=C8 i (fun _ n=>Kg n (fun m=>ckR (Nat.ble (Nat.succ m) l) (E5 x (fun h o=>k (.ptr h (Nat.add o (Nat.mul m esz)))) (fun h v o=>k (.gp h v (Nat.add o (Nat.mul m esz)))) sl) sl) sl) sl
def ixV (l esz:Nat) (ld:LdF) (x i:U) (k:U→Rv) (sl:Rv):Rv:=C8 i (fun _ n=>Kg n (fun m=>ckR (Nat.ble (Nat.succ m) l) (Nf x (fun ct n=>ld ct n (Nat.mul m esz) k sl) sl) sl) sl) sl
abbrev Gy:=IntKind→Int→Int→(U→Rv)→Rv→Rv
def Lw (f:Gy) (x y:U) (k:U→Rv) (sl:Rv):Rv:=C8 x (fun ik a=>C8 y (fun ik' b=>ckR (Pr ik ik') (f ik a b k sl) sl) sl) sl
def UT (x:U) (k:U→Rv) (sl:Rv):Rv:=uKb x (fun b=>k (.kb (iJ b))) sl
def cvG (ik:IntKind) (x:U) (k:U→Rv) (sl:Rv):Rv:=C8 x (fun _ n=>k (.int ik (cvS ik n))) sl
def Tc (i:Nat):List W→(U→Rv)→Rv→Rv:=Nat.rec (motive:=fun _=>List W→(U→Rv)→Rv→Rv) (List.rec (motive:=fun _=>(U→Rv)→Rv→Rv) (fun _ sl=>sl) fun w _ _ k _=>k (wU w)) (fun _ ih=>List.rec (motive:=fun _=>(U→Rv)→Rv→Rv) (fun _ sl=>sl) fun _ r _=>ih r) i
def exG (i:Nat) (x:U) (k:U→Rv) (sl:Rv):Rv:=Ud x (fun l=>Tc i l k sl) sl
def UR (x:U) (k:U→Rv) (sl:Rv):Rv:=E5 x (fun h o=>k (.ptr h o)) (fun h v o=>k (.gp h v o)) sl
def Th (c a b:U) (k:U→Rv) (sl:Rv):Rv:=uKb c (fun p=>k (Bool.rec (motive:=fun _=>U) b a p)) sl
def OV (x:Option Operand) (d:Nat) (ev:Operand→U) (k:Nat→Rv) (sl:Rv):Rv:=Option.rec (motive:=fun _=>Rv) (k d) (fun x=>C8 (ev x) (fun _ n=>Kg n k sl) sl) x
def U5 (esz:Nat) (x:U) (lo hi:Option Operand) (ev:Operand→U) (hp:HP) (k:U→Rv) (sl:Rv):Rv:=Sa x (fun h v e o l=>bkG (bd hp h) (fun v' e' _ _=>ckR (Nat.beq v v') (ckR (Nat.beq esz e) (ckR (Nat.beq e e') (OV lo 0 ev (fun a=>OV hi l ev (fun b=>ckR (Nat.ble b l) (ckR (Nat.ble (Nat.succ a) b) (k (.gsl h v e (Nat.add o a) (Nat.sub b a))) sl) sl) sl) sl) sl) sl) sl) sl) sl
def UP (x:U) (hp:HP) (k:U→Rv) (sl:Rv):Rv:=uSl x (k (.int .i64 (.ofNat 0))) (k (.int .i64 (.ofNat 0))) (fun h v e _ l=>bkG (bd hp h) (fun v' e' _ _=>ckR (Nat.beq v v') (ckR (Nat.beq e e') (ckR (Nat.ble l aA) (k (.int .i64 (.ofNat l))) sl) sl) sl) sl) sl
def gcG (hp:HP) (esz:Nat) (u:U) (k:Nat→CT→Nat→Rv) (sl:Rv):Rv:=uSl u (k 0 ct0 0) (k 0 ct0 0) (fun h v e o l=>bkG (bd hp h) (fun v' e' t n=>ckR (Nat.beq v v') (ckR (Nat.beq e esz) (ckR (Nat.beq e' esz) (ckR (Nat.ble (Nat.mul (Nat.add o l) esz) n) (k l t (Nat.mul o esz)) sl) sl) sl) sl) sl) sl
def HZ (esz bytes:Nat) (hp:HP) (m n:Nat) (xt:CT) (xo:Nat) (k:U→HP→Rv) (sl:Rv):Rv:=ckR (Nat.ble (Nat.mul n bytes) 70368744177664) (ckR (Nat.ble (Nat.mul n esz) Me) (Hj m hp (.grow m esz (p7 ct0 0 xt xo (Nat.mul n esz)) (Nat.mul n esz)) (.gsl m m esz 0 n) k sl) sl) sl
def apX (esz bytes:Nat) (hp:HP) (m:Nat) (s:U) (c:Nat) (xt:CT) (xo:Nat) (k:U→HP→Rv) (sl:Rv):Rv:=
 Nat.rec (motive:=fun _=>Rv) (uSl s (k s hp) (k s hp) (fun h v e _ _=>bkG (bd hp h) (fun v' e' _ _=>ckR (Nat.beq v v') (ckR (Nat.beq e e') (k s hp) sl) sl) sl) sl)
  (fun c _=>uSl s (HZ esz bytes hp m (Nat.succ c) xt xo k sl) (HZ esz bytes hp m (Nat.succ c) xt xo k sl)
   (fun h v e o l=>bkG (bd hp h) (fun v' e' t n=>ckR (Nat.beq v v') (ckR (Nat.beq e esz) (ckR (Nat.beq e' esz) (ckR (Nat.beq o 0) (ckR (Nat.beq (Nat.mul l esz) n) (ckR (Nat.ble (Nat.mul (Nat.add l (Nat.succ c)) bytes) 70368744177664) (ckR (Nat.ble (Nat.add n (Nat.mul (Nat.succ c) esz)) Me)
    (k (.gsl h m esz 0 (Nat.add l (Nat.succ c))) (dq hp h (.grow m esz (p7 t n xt xo (Nat.mul (Nat.succ c) esz)) (Nat.add n (Nat.mul (Nat.succ c) esz))))) sl) sl) sl) sl) sl) sl) sl) sl) sl)
  c
def apG (esz bytes:Nat) (s x:U) (hp:HP) (nx:Nat) (k:U→HP→Rv) (sl:Rv):Rv:=gcG hp esz x (fun c xt xo=>eB nx fun m=>apX esz bytes hp m s c xt xo k sl) sl
def Fe (l:List Operand) (ev:Operand→U):List V:=List.rec (motive:=fun _=>List V) [] (fun x _ ih=>(ev x).toV::ih) l
structure En where
 e0:Nat
 e1:Nat
 e2:Nat
 e3:Nat
def en0:En:=⟨0,0,0,0⟩
abbrev Gt:=U→U→U→U→TM→U
def isK (K i:Nat):Bool:=Bool.rec (motive:=fun _=>Bool) false (Nat.beq (Nat.mod (Nat.shiftRight K i) 2) 1) (Nat.ble (Nat.succ i) 512)
def u0:U:= .oth .any
def dt (K:Nat) (e:En) (i:Nat):Gt:=
 Bool.rec (motive:=fun _=>Gt) (Bool.rec (motive:=fun _=>Gt) (Bool.rec (motive:=fun _=>Gt) (Bool.rec (motive:=fun _=>Gt) (Bool.rec (motive:=fun _=>Gt) (fun _ _ _ _ _=>u0) (Ac.rec (motive:=fun _=>Gt) (fun g _=>fun _ _ _ _ tm=>g tm) (cC i)) (isK K i))
  (fun _ _ _ r _=>r) (Nat.beq e.e3 (Nat.succ i))) (fun _ _ r _ _=>r) (Nat.beq e.e2 (Nat.succ i))) (fun _ r _ _ _=>r) (Nat.beq e.e1 (Nat.succ i))) (fun r _ _ _ _=>r) (Nat.beq e.e0 (Nat.succ i))
def rdS (K:Nat) (e:En) (x:Operand):Gt:=Operand.rec (motive:=fun _=>Gt) (fun i=>dt K e i) (fun v _ _ _ _ _=>ku (cv v)) (fun _ _ _ _ _ _=>u0) (fun f _ _ _ _ _=> .oth (.fn f [])) x
def H4 (l:List Gt):U→U→U→U→TM→List V→List U:=List.rec (motive:=fun _=>U→U→U→U→TM→List V→List U) (fun _ _ _ _ _ cs=>cs.map ku) (fun g _ ih a b c d tm cs=>g a b c d tm::ih a b c d tm cs) l
def UF (l:List Gt) (f a b c d:U) (tm:TM) (k:FuncId→List U→Rv) (sl:Rv):Rv:=uFn f (fun g cs=>ckR (bW cs) (k g (H4 l a b c d tm cs)) sl) sl
inductive PG where
 | at (o s:Nat) (g:Gt)
def IL (a b c d:U) (tm:TM) (n:Nat) (l:List PG):CT→(CT→Rv)→Rv→Rv:=List.rec (motive:=fun _=>CT→(CT→Rv)→Rv→Rv) (fun t k _=>k t)
 (fun q _ ih t k sl=>PG.rec (motive:=fun _=>Rv) (fun o s g=>ckR (Nat.ble (Nat.add o s) n) (uCA (g a b c d tm) (fun x=>ckR (Nat.beq s 1) (ih (dN t o x) k sl) sl) (fun xt m=>ckR (Nat.beq s m) (ih (p7 t o xt 0 m) k sl) sl) sl) sl) q) l
def UD (esz n:Nat) (z:CT) (len:Nat) (a b c d:U) (tm:TM) (l:List PG) (hp:HP) (nx:Nat) (k:U→HP→Rv) (sl:Rv):Rv:=IL a b c d tm len l z (fun t=>eB nx fun m=>Hj m hp (.grow m esz t len) (.gsl m m esz 0 n) k sl) sl
abbrev VaF:=U→U→U→U→TM→HP→Nat→(U→Rv)→Rv→Rv
abbrev MeF:=U→U→U→U→TM→HP→Nat→(U→HP→Rv)→Rv→Rv
abbrev CaF:=U→U→U→U→TM→(FuncId→List U→Rv)→Rv→Rv
inductive Stp where
 | slow
 | val (f:VaF)
 | mem (f:MeF)
 | cal (f:CaF)
def I1 (K:Nat) (e:En) (i:Nat) (k:Gt→Stp):Stp:=
 Bool.rec (motive:=fun _=>Stp) (Bool.rec (motive:=fun _=>Stp) (Bool.rec (motive:=fun _=>Stp) (Bool.rec (motive:=fun _=>Stp) (Bool.rec (motive:=fun _=>Stp) (k fun _ _ _ _ _=>u0) (Ac.rec (motive:=fun _=>Stp) (fun g _=>k fun _ _ _ _ tm=>g tm) (cC i)) (isK K i))
  (k fun _ _ _ r _=>r) (Nat.beq e.e3 (Nat.succ i))) (k fun _ _ r _ _=>r) (Nat.beq e.e2 (Nat.succ i))) (k fun _ r _ _ _=>r) (Nat.beq e.e1 (Nat.succ i))) (k fun r _ _ _ _=>r) (Nat.beq e.e0 (Nat.succ i))
def dv (K:Nat) (e:En) (x:Operand) (k:Gt→Stp):Stp:=Operand.rec (motive:=fun _=>Stp) (fun i=>I1 K e i k) (fun v=>U.rec (motive:=fun _=>Stp) (fun ik n=>k fun _ _ _ _ _=> .int ik n) (fun b=>k fun _ _ _ _ _=> .kb b) (fun h o=>k fun _ _ _ _ _=> .ptr h o) (fun h v o=>k fun _ _ _ _ _=> .gp h v o) (fun h v e o l=>k fun _ _ _ _ _=> .gsl h v e o l) (fun v=>k fun _ _ _ _ _=> .oth v) (fun t n=>k fun _ _ _ _ _=> .agg t n) (fun l=>k fun _ _ _ _ _=> .tup l) (ku (cv v))) (fun _=>k fun _ _ _ _ _=>u0) (fun f=>k fun _ _ _ _ _=> .oth (.fn f [])) x
def NC (K:Nat) (e:En) (l:List Operand) :(List Gt→Stp)→Stp:=List.rec (motive:=fun _=>(List Gt→Stp)→Stp) (fun k=>k []) (fun x _ ih k=>dv K e x fun g=>ih fun gs=>k (g::gs)) l
def zY (K:Nat) (e:En) (pi:Nat→PI) (l:List (Nat×Operand)) :(List PG→Stp)→Stp:=List.rec (motive:=fun _=>(List PG→Stp)→Stp) (fun k=>k []) (fun q _ ih k=>PI.rec (motive:=fun _=>Stp) .slow (fun o s=>dv K e q.2 fun g=>ih fun gs=>k (.at o s g::gs)) (pi q.1)) l
def Fb (x:Operand) (K:Nat) (e:En) (_:Tbl):Stp:=dv K e x fun gx=> .val fun a b c d tm _ _ k _=>k (gx a b c d tm)
def Nq (p x y:Operand) (K:Nat) (e:En) (_:Tbl):Stp:=dv K e p fun gp=>dv K e x fun gx=>dv K e y fun gy=> .val fun a b c d tm _ _=>Th (gp a b c d tm) (gx a b c d tm) (gy a b c d tm)
def Dp (t:TypeId) (_:Nat) (_:En) (tb:Tbl):Stp:=ZTI.rec (motive:=fun _=>Stp) .slow (fun z n=> .mem fun _ _ _ _ _ hp nx k sl=>eB nx fun m=>Hj m hp (.cells z n) (.ptr m 0) k sl) (yl tb t)
def Sp (_:TypeId) (x:Operand) (K:Nat) (e:En) (_:Tbl):Stp:=dv K e x fun gx=> .mem fun a b c d tm hp nx k sl=>eB nx fun m=>UC (gx a b c d tm) hp m k sl
def ldS (i:TI) :(LdF→Stp)→Stp:=TI.rec (motive:=fun _=>(LdF→Stp)→Stp) (fun _=> .slow) (fun k=>k BU) (fun n k=>k (BT n)) i
def Np (t:TypeId) (x:Operand) (K:Nat) (e:En) (tb:Tbl):Stp:=ldS (tyI tb t) fun ld=>dv K e x fun gx=> .val fun a b c d tm hp _=>ldG ld (gx a b c d tm) hp
def stS (i:TI) :(StF→Stp)→Stp:=TI.rec (motive:=fun _=>(StF→Stp)→Stp) (fun _=> .slow) (fun k=>k Oc) (fun n k=>k (Oa n)) i
def Ii (t:TypeId) (x y:Operand) (K:Nat) (e:En) (tb:Tbl):Stp:=stS (tyI tb t) fun st=>dv K e x fun gx=>dv K e y fun gy=> .mem fun a b c d tm hp _=>stG st (gx a b c d tm) (gy a b c d tm) hp
def cFA (t:TypeId) (x:Operand) (f:Nat) (K:Nat) (e:En) (tb:Tbl):Stp:=Option.rec (motive:=fun _=>Stp) .slow (fun o=>dv K e x fun gx=> .val fun a b c d tm _ _=>faG o (gx a b c d tm)) (LU tb t f)
def cFV (t:TypeId) (x:Operand) (f:Nat) (K:Nat) (e:En) (tb:Tbl):Stp:=FVI.rec (motive:=fun _=>Stp) .slow (fun o i=>ldS i fun ld=>dv K e x fun gx=> .val fun a b c d tm _ _=>fvG o ld (gx a b c d tm)) (Pk tb t f)
def cIA (t:TypeId) (x i:Operand) (K:Nat) (e:En) (tb:Tbl):Stp:=IXI.rec (motive:=fun _=>Stp) .slow
 (fun esz=>dv K e x fun gx=>dv K e i fun gi=> .val fun a b c d tm hp _=>UN esz (gx a b c d tm) (gi a b c d tm) hp)
 (fun l esz=>dv K e x fun gx=>dv K e i fun gi=> .val fun a b c d tm _ _=>UM l esz (gx a b c d tm) (gi a b c d tm)) (L2 tb t)
def O4 (t:TypeId) (x i:Operand) (K:Nat) (e:En) (tb:Tbl):Stp:=IVI.rec (motive:=fun _=>Stp) .slow (fun l esz ti=>ldS ti fun ld=>dv K e x fun gx=>dv K e i fun gi=> .val fun a b c d tm _ _=>ixV l esz ld (gx a b c d tm) (gi a b c d tm)) (Py tb t)
def UA (op:BinOp) :(Gy→Stp)→Stp:=BinOp.rec (motive:=fun _=>(Gy→Stp)→Stp)
 (fun k=>k SD) (fun k=>k SI) (fun k=>k SF) (fun k=>k SG) (fun k=>k SH) (fun _=> .slow) (fun _=> .slow) (fun _=> .slow) (fun _=> .slow) (fun _=> .slow) (fun _=> .slow)
 (fun k=>k fEq) (fun k=>k fNe) (fun k=>k fLt) (fun k=>k fLe) (fun k=>k fGt) (fun k=>k fGe) op
def O0 (op:BinOp) (t:TypeId) (x y:Operand) (_:TypeId) (K:Nat) (e:En) (tb:Tbl):Stp:=Bool.rec (motive:=fun _=>Stp) .slow (UA op fun f=>dv K e x fun gx=>dv K e y fun gy=> .val fun a b c d tm _ _=>Lw f (gx a b c d tm) (gy a b c d tm)) (R8 tb t)
def cUn (op:UnOp) (_:TypeId) (x:Operand) (K:Nat) (e:En) (_:Tbl):Stp:=UnOp.rec (motive:=fun _=>Stp) .slow .slow (dv K e x fun gx=> .val fun a b c d tm _ _=>UT (gx a b c d tm)) .slow op
def Ic (s t:TypeId) (x:Operand) (K:Nat) (e:En) (tb:Tbl):Stp:=Option.rec (motive:=fun _=>Stp) .slow (fun ik=>dv K e x fun gx=> .val fun a b c d tm _ _=>cvG ik (gx a b c d tm)) (cvI tb s t)
def cMF (fn:Fn) (first caps:Array Operand) (K:Nat) (e:En) (_:Tbl):Stp:=match fn with
 | .func f=>Bool.rec (motive:=fun _=>Stp) .slow (.val fun a b c d tm _ _ k sl=>ckR (bW (Fe caps.toList fun x=>rdS K e x a b c d tm)) (k (.oth (.fn f (Fe caps.toList fun x=>rdS K e x a b c d tm)))) sl) (Nat.beq first.size 0)
 | _=> .slow
def Sr (x:Operand) (i:Nat) (K:Nat) (e:En) (_:Tbl):Stp:=dv K e x fun gx=> .val fun a b c d tm _ _=>exG i (gx a b c d tm)
def Ss (x:Operand) (K:Nat) (e:En) (_:Tbl):Stp:=dv K e x fun gx=> .val fun a b c d tm _ _=>UR (gx a b c d tm)
def Dq (t:TypeId) (parts:Array (Nat×Operand)) (K:Nat) (e:En) (tb:Tbl):Stp:=Bool.rec (motive:=fun _=>Stp) .slow (ZTI.rec (motive:=fun _=>Stp) .slow (fun z n=>zY K e (Kd tb t) parts.toList fun gs=> .val fun a b c d tm _ _ k sl=>IL a b c d tm n gs z (fun t=>k (.agg t n)) sl) (yl tb t)) (yw tb t)
def OZ (t:TypeId) (n:Nat) (parts:Array (Nat×Operand)) (K:Nat) (e:En) (tb:Tbl):Stp:=SLI.rec (motive:=fun _=>Stp) .slow (fun esz z len=>zY K e (fun i=> .at (Nat.mul i esz) esz) parts.toList fun gs=> .mem fun a b c d tm hp nx=>UD esz n z len a b c d tm gs hp nx) (OW tb t n)
def Dr (t:TypeId) (x:Operand) (lo hi mx:Option Operand) (K:Nat) (e:En) (tb:Tbl):Stp:=Option.rec (motive:=fun _=>Stp) (Option.rec (motive:=fun _=>Stp) .slow (fun esz=>dv K e x fun gx=> .val fun a b c d tm hp _=>U5 esz (gx a b c d tm) lo hi (fun x=>rdS K e x a b c d tm) hp) (Q5 tb t)) (fun _=> .slow) mx
def Ep (l:List Operand) (k:Operand→Stp):Stp:=List.rec (motive:=fun _=>Stp) .slow (fun x r _=>List.rec (motive:=fun _=>Stp) (k x) (fun _ _ _=> .slow) r) l
def Lk (l:List Operand) (k:Operand→Operand→Stp):Stp:=List.rec (motive:=fun _=>Stp) .slow (fun x r _=>Ep r (k x)) l
def O5 (q:Call) (K:Nat) (e:En) (tb:Tbl):Stp:=Bool.rec (motive:=fun _=>Stp) .slow (Ep q.args.toList fun x=>dv K e x fun gx=> .val fun a b c d tm hp _=>UP (gx a b c d tm) hp) (Ja tb q)
def OY (q:Call) (K:Nat) (e:En) (tb:Tbl):Stp:=API.rec (motive:=fun _=>Stp) .slow (fun esz bytes=>Lk q.args.toList fun s x=>dv K e s fun gs=>dv K e x fun gx=> .mem fun a b c d tm hp nx=>apG esz bytes (gs a b c d tm) (gx a b c d tm) hp nx) (OS tb q)
def gU (_:Call) (_:Nat) (_:En) (_:Tbl):Stp:= .slow
def Sq (b:Builtin):Call→Nat→En→Tbl→Stp:=Builtin.rec (motive:=fun _=>Call→Nat→En→Tbl→Stp) OY gU gU gU gU gU gU gU O5 gU gU gU gU gU gU gU gU gU gU gU gU gU gU gU gU gU b
def Ia (q:Call) (K:Nat) (e:En) (tb:Tbl):Stp:=Callee.rec (motive:=fun _=>Stp) (fun f=>dv K e f fun gf=>NC K e q.args.toList fun gs=> .cal fun a b c d tm=>UF gs (gf a b c d tm) a b c d tm) (fun _ _=> .slow) (fun b=>Sq b q K e tb) q.callee
def cmp (K:Nat) (e:En) (tb:Tbl) (op:Op):Stp:=Op.rec (motive:=fun _=>Nat→En→Tbl→Stp)
 Fb
 Fb
 Nq
 Dp
 Sp
 Dq
 OZ
 (fun _ _ _ _ _ _ _=> .slow)
 Np
 Ii
 (fun _ _ _ _=> .slow)
 (fun _ _ _ _=> .slow)
 Ss
 O0
 cUn
 Ic
 (fun _ _ _ _ _=> .slow)
 (fun _ _ _ _ _=> .slow)
 cMF
 (fun _ _ _ _ _=> .slow)
 (fun _ _ _ _ _=> .slow)
 (fun _ _ _ _ _ _=> .slow)
 Dr
 cFA
 cFV
 cIA
 O4
 (fun _ _ _ _ _ _ _=> .slow)
 (fun _ _ _ _ _ _ _=> .slow)
 (fun _ _ _ _ _ _=> .slow)
 (fun _ _ _ _ _ _ _=> .slow)
 (fun _ _ _ _ _=> .slow)
 (fun _ _ _ _ _=> .slow)
 (fun _ _ _ _=> .slow)
 (fun _ _ _ _ _ _ _=> .slow)
 Sr
 Ia
 (fun _ _ _ _=> .slow)
 (fun _ _ _ _=> .slow)
 (fun _ _ _ _=> .slow)
 (fun _ _ _ _ _=> .slow)
 (fun _ _ _ _ _ _=> .slow)
 (fun _ _ _ _ _=> .slow) op K e tb
def hpH (hp:HP):aw:=fun h=>(bd hp h).toB
def uE:List (Nat×Blk)→HP→Option HP
 | [],hp=>some hp
 |(h,b)::r,hp=>match uE r hp with
  | some hp=>bif Nat.ble (Nat.succ h) Md then match b with
   | .cells cs=>bif gr cs then some (dq hp h (.cells (ofL cs) cs.length)) else none
   | .grow v e cs=>bif gr cs then some (dq hp h (.grow v e (ofL cs) cs.length)) else none
   | .mp es=>some (dq hp h (.mp es))
   | .row _ _ _ _=>none
   | .abs _ _ _=>none
   else none
  | none=>none
def kbV:V→V
 | .agg cs=> .agg (cs.map jH)
 | .tup vs=> .tup (vs.map fun v=>match v with
  | .agg cs=> .agg (cs.map jH)
  | v=>jH v)
 | v=>jH v
def N9 (tb:Tbl) (N:Nat) (op:Op) (ev:Operand→U) (hp:HP) (nx:Nat) (k:U→HP→Rv):Rv:=eB nx fun nx=>
 match sM tb N nx (hpH hp) (fun x=>(ev x).toV) op with
 | some (ps,v,dh)=>match NB ps with
  | true=>match uE dh hp with
   | some hp=>k (ku (kbV v)) hp
   | none=> .no [104]
  | false=> .no [100]
 | none=> .no [101]
abbrev RgF:=U→U→U→U→eK→TM→HP→Nat→Rv
structure Cds where
 run:RgF
abbrev Uo:=U→TM→TM
inductive DK where
 | none
 | drop
 | keep (p:Uo)
def dkS (K:Nat) (d:Option Nat):DK:=Option.rec (motive:=fun _=>DK) .none (fun i=>Bool.rec (motive:=fun _=>DK) .drop (Ac.rec (motive:=fun _=>DK) (fun _ p=> .keep p) (cC i)) (isK K i)) d
def enS (e:En) (d:Option Nat):En:=Option.rec (motive:=fun _=>En) e (fun i=>⟨Nat.succ i,e.e0,e.e1,e.e2⟩) d
def ka (dk:DK) (nxt:Cds):U→U→U→U→U→eK→TM→HP→Nat→Rv:=DK.rec (motive:=fun _=>U→U→U→U→U→eK→TM→HP→Nat→Rv)
 (fun _ a b c d call tm hp nx=>Cds.run nxt a b c d call tm hp nx)
 (fun u a b c _ call tm hp nx=>Cds.run nxt u a b c call tm hp nx)
 (fun p u a b c _ call tm hp nx=>Cds.run nxt u a b c call (p u tm) hp nx) dk
def Sv (r:Rf):FuncId→(U→HP→Nat→Rv)→Rv:=Rf.rec (motive:=fun _=>FuncId→(U→HP→Nat→Rv)→Rv) (fun v hp nx _ k=>k v hp nx) (fun v hp nx _ k=>k v hp nx) (fun w g _=> .no (g::w)) r
def pN (tb:Tbl) (N K:Nat) (e:En) (op:Op) (dk:DK) (nxt:Cds) (a b c d:U) (call:eK) (tm:TM) (hp:HP) (nx:Nat):Rv:=N9 tb N op (fun x=>rdS K e x a b c d tm) hp nx fun u hp=>ka dk nxt u a b c d call tm hp (Nat.succ nx)
def AG (tb:Tbl) (N K:Nat) (e:En) (op:Op) (dk:DK) (nxt:Cds) (s:Stp):Cds:=Stp.rec (motive:=fun _=>Cds)
 ⟨pN tb N K e op dk nxt⟩
 (fun f=>DK.rec (motive:=fun _=>Cds)
  ⟨fun a b c d call tm hp nx=>f a b c d tm hp nx (fun _=>Cds.run nxt a b c d call tm hp (Nat.succ nx)) (pN tb N K e op dk nxt a b c d call tm hp nx)⟩
  ⟨fun a b c d call tm hp nx=>f a b c d tm hp nx (fun u=>Cds.run nxt u a b c call tm hp (Nat.succ nx)) (pN tb N K e op dk nxt a b c d call tm hp nx)⟩
  (fun p=>⟨fun a b c d call tm hp nx=>f a b c d tm hp nx (fun u=>Cds.run nxt u a b c call (p u tm) hp (Nat.succ nx)) (pN tb N K e op dk nxt a b c d call tm hp nx)⟩) dk)
 (fun f=>⟨fun a b c d call tm hp nx=>f a b c d tm hp nx (fun u hp=>ka dk nxt u a b c d call tm hp (Nat.succ nx)) (pN tb N K e op dk nxt a b c d call tm hp nx)⟩)
 (fun f=>⟨fun a b c d call tm hp nx=>f a b c d tm (fun g args=>Sv (call g args hp nx) g fun u hp nx=>ka dk nxt u a b c d call tm hp nx) (pN tb N K e op dk nxt a b c d call tm hp nx)⟩) s
def IQ (all:List Oper) (j:Nat):Option Nat:=match all[j]? with
 | some oj=>oj.dst
 | none=>none
def So:Cds:=⟨fun _ _ _ _ _ _ _ _=> .no [102]⟩
def IY (K:Nat) (e:En) (i:Nat) (k:Gt→Cds):Cds:=
 Bool.rec (motive:=fun _=>Cds) (Bool.rec (motive:=fun _=>Cds) (Bool.rec (motive:=fun _=>Cds) (Bool.rec (motive:=fun _=>Cds) (Bool.rec (motive:=fun _=>Cds) (k fun _ _ _ _ _=>u0) (Ac.rec (motive:=fun _=>Cds) (fun g _=>k fun _ _ _ _ tm=>g tm) (cC i)) (isK K i))
  (k fun _ _ _ r _=>r) (Nat.beq e.e3 (Nat.succ i))) (k fun _ _ r _ _=>r) (Nat.beq e.e2 (Nat.succ i))) (k fun _ r _ _ _=>r) (Nat.beq e.e1 (Nat.succ i))) (k fun r _ _ _ _=>r) (Nat.beq e.e0 (Nat.succ i))
def gdC (K:Nat) (e:En) (dj:Nat) (want:Bool) (dk:DK) (nxt un:Cds):Cds:=IY K e dj fun g=>Bool.rec (motive:=fun _=>Cds)
 ⟨fun a b c d call tm hp nx=>T9 (g a b c d tm) (Cds.run un a b c d call tm hp nx) (ka dk nxt (.tup []) a b c d call tm hp nx) (.no [105])⟩
 ⟨fun a b c d call tm hp nx=>Ua (g a b c d tm) (Cds.run un a b c d call tm hp nx) (ka dk nxt (.tup []) a b c d call tm hp nx) (.no [105])⟩ want
def QB (tb:Tbl) (N K:Nat) (all:List Oper) (e:En) (o:Oper) (dk:DK) (nxt:Cds):Cds:=Option.rec (motive:=fun _=>Cds) (AG tb N K e o.op dk nxt (cmp K e tb o.op))
 (fun q=>Option.rec (motive:=fun _=>Cds) So (fun dj=>gdC K e dj q.2 dk nxt (AG tb N K e o.op dk nxt (cmp K e tb o.op))) (IQ all q.1)) o.guard
def Tg (tb:Tbl) (N K:Nat) (all l:List Oper):En→Cds:=List.rec (motive:=fun _=>En→Cds) (fun _=>⟨fun _ _ _ _ _ tm hp nx=> .go .nrm tm hp nx⟩) (fun o _ ih e=>QB tb N K all e o (dkS K o.dst) (ih (enS e o.dst))) l
def uU (tm:TM) (i:Nat) (u:U):TM:=Ac.rec (motive:=fun _=>U→TM→TM) (fun _ p=>p) (cC i) u tm
def wEx (v:V):Option W:=match v with
 | .agg cs=>Bool.rec (motive:=fun _=>Option W) none (some (.agg (ofL cs) cs.length)) (gr cs)
 | .tup _=>none
 | v=>some (.c (GK v))
def Lo:List V→Option (List W)
 | []=>some []
 | v::r=>match wEx v with
  | some w=>match Lo r with
   | some l=>some (w::l)
   | none=>none
  | none=>none
def uEx (v:V):Option U:=match v with
 | .agg cs=>Bool.rec (motive:=fun _=>Option U) none (some (.agg (ofL cs) cs.length)) (gr cs)
 | .tup vs=>match Lo vs with
  | some l=>some (.tup l)
  | none=>none
 | .bool b=>some (.kb b)
 | .int k n=>some (.int k n)
 | .kb b=>some (.kb b)
 | .ptr h o=>some (.ptr h o)
 | .gp h v o=>some (.gp h v o)
 | .gsl h v e o l=>some (.gsl h v e o l)
 | v=>some (.oth v)
def xr (K:Nat) (tm:TM) (i:Nat):V:=(dt K en0 i u0 u0 u0 u0 tm).toV
def DP (K:Nat) (all:List Oper) (tm:TM) (o:Oper):Option Bool:=
 match o.guard with
 | none=>some true
 | some (j,want)=>match all[j]? with
  | some oj=>match oj.dst with
   | some dj=>match xr K tm dj with
    | .kb b=>some (b==want)
    | .tup []=>some false
    | _=>none
   | none=>none
  | none=>none
def eZ (K:Nat) (rs:List Nat) (tm:TM):Operand→V
 | .tmp t=>bif memN rs t then xr K tm t else .any
 | .const v=>cv v
 | .func f=> .fn f []
 | .global _=> .any
def Bc (N K:Nat) (d:Option Nat):Bool:=match d with
 | some d=>Nat.blt d N&&isK K d
 | none=>true
def mq (d:Option Nat) (u:U) (tm:TM):TM:=match d with
 | some d=>uU tm d u
 | none=>tm
def Po (c:C) (r:List Nat):List Nat:=C.rec (motive:=fun _=>List Nat) (fun _ _=>r) (fun _=>r) (fun h _=>h::r) (fun h _ _=>h::r) (fun h _ _ _ _=>h::r) (fun v=>v.hs++r) c
def hsT (t:CT) (n:Nat):Nat→List Nat:=Nat.rec (motive:=fun _=>Nat→List Nat) (fun _=> []) (fun _ ih i=>Po (cb t i) (ih (Nat.succ i))) n
def zw (b:Bk):List Nat:=Bk.rec (motive:=fun _=>List Nat) [] (fun t n=>hsT t n 0) (fun _ _ t n=>hsT t n 0) (fun es=>hsE es) b
def S3 (b:Bk):Bool:=Bk.rec (motive:=fun _=>Bool) false (fun _ _=>true) (fun _ _ _ _=>true) (fun _=>true) b
def qK (hp:HP):Nat→List Nat→List Nat→List Nat
 | 0,_,acc=>acc
 | n+1,new,acc=>
  let add:=new.filter fun h=>!memN acc h
  let nxt:=add.flatMap fun h=>zw (bd hp h)
  match add with
  | []=>acc
  | _=>qK hp n nxt (add++acc)
def zo (hp:HP) (R:List Nat) (m K:Nat) (v:V) (dh:List (Nat×Blk)):Bool:=
 (R.all fun h=>bif S3 (bd hp h) then nt R m K (zw (bd hp h)) else false)&&(dh.all fun q=>nt R m K [q.1]&&nt R m K q.2.hs)&&nt R m K v.hs
def eqC (c d:C):Bool:=C.rec (motive:=fun _=>Bool)
 (fun k n=>C.rec (motive:=fun _=>Bool) (fun k' n'=>Bool.rec (motive:=fun _=>Bool) false (eqS n n') (Pr k k')) (fun _=>false) (fun _ _=>false) (fun _ _ _=>false) (fun _ _ _ _ _=>false) (fun _=>false) d)
 (fun b=>C.rec (motive:=fun _=>Bool) (fun _ _=>false) (fun b'=>Bool.rec (motive:=fun _=>Bool) (iJ b') b' b) (fun _ _=>false) (fun _ _ _=>false) (fun _ _ _ _ _=>false) (fun _=>false) d)
 (fun h o=>C.rec (motive:=fun _=>Bool) (fun _ _=>false) (fun _=>false) (fun h' o'=>Bool.rec (motive:=fun _=>Bool) false (Nat.beq o o') (Nat.beq h h')) (fun _ _ _=>false) (fun _ _ _ _ _=>false) (fun _=>false) d)
 (fun h v o=>C.rec (motive:=fun _=>Bool) (fun _ _=>false) (fun _=>false) (fun _ _=>false) (fun h' v' o'=>Bool.rec (motive:=fun _=>Bool) false (Bool.rec (motive:=fun _=>Bool) false (Nat.beq o o') (Nat.beq v v')) (Nat.beq h h')) (fun _ _ _ _ _=>false) (fun _=>false) d)
 (fun h v e o l=>C.rec (motive:=fun _=>Bool) (fun _ _=>false) (fun _=>false) (fun _ _=>false) (fun _ _ _=>false) (fun h' v' e' o' l'=>Bool.rec (motive:=fun _=>Bool) false (Bool.rec (motive:=fun _=>Bool) false (Bool.rec (motive:=fun _=>Bool) false (Bool.rec (motive:=fun _=>Bool) false (Nat.beq l l') (Nat.beq o o')) (Nat.beq e e')) (Nat.beq v v')) (Nat.beq h h')) (fun _=>false) d)
 (fun v=>C.rec (motive:=fun _=>Bool) (fun _ _=>false) (fun _=>false) (fun _ _=>false) (fun _ _ _=>false) (fun _ _ _ _ _=>false) (fun v'=>V.eqb v v') d) c
def eqT (t t':CT) (n:Nat):Nat→Bool:=Nat.rec (motive:=fun _=>Nat→Bool) (fun _=>true) (fun _ ih i=>Bool.rec (motive:=fun _=>Bool) false (ih (Nat.succ i)) (eqC (cb t i) (cb t' i))) n
def G6 (b d:Bk):Bool:=Bk.rec (motive:=fun _=>Bool) (Bk.rec (motive:=fun _=>Bool) true (fun _ _=>false) (fun _ _ _ _=>false) (fun _=>false) d)
 (fun t n=>Bk.rec (motive:=fun _=>Bool) false (fun t' n'=>Bool.rec (motive:=fun _=>Bool) false (eqT t t' n 0) (Nat.beq n n')) (fun _ _ _ _=>false) (fun _=>false) d)
 (fun v e t n=>Bk.rec (motive:=fun _=>Bool) false (fun _ _=>false) (fun v' e' t' n'=>Bool.rec (motive:=fun _=>Bool) false (Bool.rec (motive:=fun _=>Bool) false (Bool.rec (motive:=fun _=>Bool) false (eqT t t' n 0) (Nat.beq n n')) (Nat.beq e e')) (Nat.beq v v')) (fun _=>false) d)
 (fun es=>Bk.rec (motive:=fun _=>Bool) false (fun _ _=>false) (fun _ _ _ _=>false) (fun es'=>G7 es es') d) b
def jg:List Nat→(List Nat→Rv)→Rv
 | [],k=>k []
 | n::r,k=>eB n fun n=>jg r fun r=>k (n::r)
def ue (hp:HP):List Nat→HP→HP
 | [],t=>t
 | h::r,t=>ue hp r (dq t h (bd hp h))
def Hg (hp':HP):List Nat→HP→Option (HP×List (Nat×Blk))
 | [],hp=>some (hp,[])
 | h::r,hp=>match (bd hp' h).toB with
  | some b=>match Hg hp' r hp with
   | some (hp,dh)=>some (dq hp h (bd hp' h),(h,b)::dh)
   | none=>none
  | none=>none
def Dx (call:eK) (g:FuncId) (args:List U) (hp:HP) (R:List Nat) (m:Nat) (k:U→HP→List (Nat×Blk)→Nat→Rv):Rv:=
 match call g args (ue hp R hp0) m with
 | .ok u hp' nx=>jg (R.filter fun h=>!G6 (bd hp h) (bd hp' h)) fun chg=>jg ((qK hp' 64 (u.toV.hs++chg) []).filter fun h=>!(memN R h&&!memN chg h)) fun keys=>
   bif chg.all (fun h=>memN keys h) then match Hg hp' keys hp with
    | some (hp,dh)=>k u hp dh nx
    | none=> .no [23]
   else .no [22]
 | .ex _ _ _=> .no [24]
 | .no w=> .no (g::w)
def Gk (all:List Oper) (o o':Oper):Bool:=rG o.dst.toList o'.dst.toList&&rG o.dst.toList (ao all o')&&rG o'.dst.toList (ao all o)
def Gl (ms:List Nat) (all:List Oper) (i:Nat) (o:Oper):Nat→List Oper→Bool
 | _,[]=>true
 | j,o'::os=>(((ms[j]?).getD 0).testBit i||Gk all o o')&&Gl ms all i o (j+1) os
def Gi (ms:List Nat) (all:List Oper):Nat→List Oper→Bool
 | _,[]=>true
 | i,o::os=>Gl ms all i o (i+1) os&&Gi ms all (i+1) os
def Gj (all:List Oper):Bool:=cF 0 all&&Gi (bK all []) all 0 all
def Iz (r s:Rec):Bool:=rG (r.dh.map (·.1)) (s.dh.map (·.1))&&rG (r.dh.map (·.1)) s.R
def Hs (ms:List Nat) (i j:Nat):Bool:=Nat.beq i j ||(bif Nat.blt i j then ((ms[j]?).getD 0).testBit i else ((ms[i]?).getD 0).testBit j)
def IA (ms:List Nat) (i:Nat) (r:Rec):Nat→List Rec→Bool
 | _,[]=>true
 | j,s::ss=>(Hs ms i j||Iz r s)&&IA ms i r (j+1) ss
def G4 (ms:List Nat) (recs:List Rec):Nat→List Rec→Bool
 | _,[]=>true
 | i,r::rs=>(match r.dh with
  | []=>true
  | _::_=>IA ms i r 0 recs)&&G4 ms recs (i+1) rs
abbrev Alt:=Option (Nat×(Blk→Bool))
def lkD (tb:Tbl) (ev:Operand→V) (op:Op):Option (Nat×TD×TD×V×Bool):=match op with
 | .lookup t x k ok=>match fN tb t with
  | some q=>match ev x with
   | .mpv h=>some (h,q.1,q.2,ev k,ok)
   | _=>none
  | none=>none
 | _=>none
def Qx (tk te:TD) (h0:Nat) (k:V) (ok:Bool) (v:V) (b:Blk):Bool:=match cq tk te (fun _=>some b) (.mpv h0) k ok with
 | .val _ v' _=>V.eqb v' v
 | _=>false
def HY (ms:List Nat) (i h0:Nat) (okB:Blk→Bool):Nat→List Rec→Bool
 | _,[]=>true
 | j,s::ss=>(match find s.dh h0 with
  | none=>true
  | some b=>Nat.beq i j ||(bif Nat.blt j i then ((ms[i]?).getD 0).testBit j else ((ms[j]?).getD 0).testBit i||okB b))&&HY ms i h0 okB (j+1) ss
def yu (ms:List Nat) (recs:List Rec):Nat→List Alt→Bool
 | _,[]=>true
 | i,none::r=>yu ms recs (i+1) r
 | i,some (h0,okB)::r=>HY ms i h0 okB 0 recs&&yu ms recs (i+1) r
def ly (tb:Tbl) (N K:Nat) (call:eK) (all:List Oper):List Oper→TM→HP→Nat→List (Rec×Alt)→Rv
 | [],tm,hp,nx,recs=>bif Gj all&&(G4 (bK all []) (recs.reverse.map (·.1)) 0 (recs.reverse.map (·.1))&&yu (bK all []) (recs.reverse.map (·.1)) 0 (recs.reverse.map (·.2))) then .go .nrm tm hp nx else .no [30]
 | o::rest,tm,hp,nx,recs=>bif Bc N K o.dst then
   match DP K all tm o with
   | some false=>eB (nx+1) fun nx=>ly tb N K call all rest (mq o.dst (.tup []) tm) hp nx ((⟨o.dst,.tup [],[],[],ao all o⟩,none)::recs)
   | some true=>jg (ao all o) fun rs=>match lkD tb (eZ K rs tm) o.op with
    | some (h0,tk,te,k,ok)=>match cq tk te (hpH hp) (.mpv h0) k ok with
     | .val _ v _=>match uEx v with
      | some u=>eB (nx+1) fun nx=>ly tb N K call all rest (mq o.dst u tm) hp nx ((⟨o.dst,jH v,[],[],rs⟩,some (h0,Qx tk te h0 k ok v))::recs)
      | none=> .no [39,rest.length]
     | _=> .no [40,rest.length]
    | none=>bif oM (eZ K rs tm) o.op then jg (o.op.operands.toList.flatMap fun x=>(eZ K rs tm x).hs) fun R=>
     match sM tb N nx (hpH hp) (eZ K rs tm) o.op with
     | none=> .no [37,rest.length]
     | some (ps,v,dh)=>bif ps.all Ob.chk then match uEx v,uE dh hp with
       | some u,some hp'=>eB (nx+1) fun nx=>ly tb N K call all rest (mq o.dst u tm) hp' nx ((⟨o.dst,jH v,dh,R,rs⟩,none)::recs)
       | _,_=> .no [36,rest.length]
      else .no [38,rest.length]
    else jg (qK hp 8 (o.op.operands.toList.flatMap fun x=>(eZ K rs tm x).hs) []) fun R=>
    match evA tb N nx (restr (hpH hp) R) (eZ K rs tm) o.op with
    | .call g args=>Dx call g (args.map ku) hp R nx fun u hp' dh nx2=>
      bif zo hp R nx (nx2+1 - nx) u.toV dh then
       eB (nx2+1) fun nx=>ly tb N K call all rest (mq o.dst u tm) hp' nx ((⟨o.dst,u.toV,dh,R,rs⟩,none)::recs)
      else .no [31,rest.length]
    | .plain none=> .no [33,rest.length]
    | .plain (some (ps,v,dh))=>bif ps.all Ob.chk&&zo hp R nx 1 v dh then match uEx v,uE dh hp with
      | some u,some hp'=>eB (nx+1) fun nx=>ly tb N K call all rest (mq o.dst u tm) hp' nx ((⟨o.dst,jH v,dh,R,rs⟩,none)::recs)
      | _,_=> .no [36,rest.length]
     else .no [32,rest.length]
   | none=> .no [34,rest.length]
  else .no [35,rest.length]
def MZ (r:Rv):KR→Rv:=Rv.rec (motive:=fun _=>KR→Rv) (fun e tm hp nx k=>Lf.rec (motive:=fun _=>Rv) (k tm hp nx) (fun id=> .go (.ext id) tm hp nx) (.go .ret tm hp nx) e) (fun w _=> .no w) r
def H7 (id:Nat) (r:Rv):Rv:=Rv.rec (motive:=fun _=>Rv) (fun e tm hp nx=>Lf.rec (motive:=fun _=>Rv) (.go .nrm tm hp nx) (fun i=>Bool.rec (motive:=fun _=>Rv) (.go (.ext i) tm hp nx) (.go .nrm tm hp nx) (Nat.beq i id)) (.go .ret tm hp nx) e) .no r
def Jp (f:KR) (n:Nat):KR:=Nat.rec (motive:=fun _=>KR) (fun _ _ _=> .no [3]) (fun _ ih tm hp nx=>eB nx fun nx=>MZ (f tm hp nx) ih) n
structure Cd where
 run:eK→KR
def QN (tb:Tbl) (N K:Nat) (ops:List Oper):Cd:=Bool.rec (motive:=fun _=>Cd) ⟨fun _ _ _ _=> .no [103]⟩ ⟨Cds.run (Tg tb N K ops ops en0) u0 u0 u0 u0⟩ (Iy N ops)
def Fy (K:Nat) (e:En) (i:Nat) (k:Gt→Cd):Cd:=
 Bool.rec (motive:=fun _=>Cd) (Bool.rec (motive:=fun _=>Cd) (Bool.rec (motive:=fun _=>Cd) (Bool.rec (motive:=fun _=>Cd) (Bool.rec (motive:=fun _=>Cd) (k fun _ _ _ _ _=>u0) (Ac.rec (motive:=fun _=>Cd) (fun g _=>k fun _ _ _ _ tm=>g tm) (cC i)) (isK K i))
  (k fun _ _ _ r _=>r) (Nat.beq e.e3 (Nat.succ i))) (k fun _ _ r _ _=>r) (Nat.beq e.e2 (Nat.succ i))) (k fun _ r _ _ _=>r) (Nat.beq e.e1 (Nat.succ i))) (k fun r _ _ _ _=>r) (Nat.beq e.e0 (Nat.succ i))
def SB (K:Nat) (c:Operand) (ix iy:Cd):Cd:=Operand.rec (motive:=fun _=>Cd) (fun i=>Fy K en0 i fun g=>⟨fun call tm hp nx=>uKb (g u0 u0 u0 u0 tm) (fun b=>Bool.rec (motive:=fun _=>Rv) (Cd.run iy call tm hp nx) (Cd.run ix call tm hp nx) b) (.no [4])⟩) (fun v=>⟨fun call tm hp nx=>uKb (ku (cv v)) (fun b=>Bool.rec (motive:=fun _=>Rv) (Cd.run iy call tm hp nx) (Cd.run ix call tm hp nx) b) (.no [4])⟩) (fun _=>⟨fun _ _ _ _=> .no [4]⟩) (fun _=>⟨fun _ _ _ _=> .no [4]⟩) c
def fE (tb:Tbl) (N K:Nat) (c:Code):Cd:=Code.rec (motive:=fun _=>Cd)
 ⟨fun _ tm hp nx=> .go .nrm tm hp nx⟩
 (fun _ ops dr=>Bool.rec (motive:=fun _=>Cd) (QN tb N K ops.toList) ⟨fun call tm hp nx=>ly tb N K call ops.toList ops.toList tm hp nx []⟩ dr)
 (fun _ _ ia ib=>⟨fun call tm hp nx=>MZ (Cd.run ia call tm hp nx) (Cd.run ib call)⟩)
 (fun c _ _ ix iy=>SB K c ix iy)
 (fun id _ ib=>⟨fun call tm hp nx=>H7 id (Cd.run ib call tm hp nx)⟩)
 (fun _ ib=>⟨fun call=>Jp (Cd.run ib call) jv⟩)
 (fun _ _ _ _ _ _=>⟨fun _ _ _ _=> .no [6]⟩)
 (fun id=>⟨fun _ tm hp nx=> .go (.ext id) tm hp nx⟩)
 (fun _ _=>⟨fun _ _ _ _=> .no [6]⟩)
 (fun _=>⟨fun _ _ _ _=> .no [6]⟩)
 (fun _=>⟨fun _ _ _ _=> .no [6]⟩)
 ⟨fun _ tm hp nx=> .go .ret tm hp nx⟩
 (fun _=>⟨fun _ _ _ _=> .no [6]⟩) c
def je (l:List U):Nat→TM→TM:=List.rec (motive:=fun _=>Nat→TM→TM) (fun _ tm=>tm) (fun u _ ih i tm=>ih (Nat.succ i) (uU tm i u)) l
def ldP (ld:LdF) (a:U) (hp:HP) (k:U→Rv) (sl:Rv):Rv:=E5 a (fun h o=>bkC (bd hp h) (fun ct n=>ld ct n o k sl) sl) (fun _ _ _=>sl) sl
def Ge (tb:Tbl) (K:Nat) (r:ResultVar):TM→HP→(U→Rv)→Rv→Rv:=ResultVar.rec (motive:=fun _=>TM→HP→(U→Rv)→Rv→Rv) (fun t tm _ k _=>k (dt K en0 t u0 u0 u0 u0 tm))
 (fun a t=>TI.rec (motive:=fun _=>TM→HP→(U→Rv)→Rv→Rv) (fun _ _ _ sl=>sl) (fun tm hp=>ldP BU (dt K en0 a u0 u0 u0 u0 tm) hp) (fun n tm hp=>ldP (BT n) (dt K en0 a u0 u0 u0 u0 tm) hp) (tyI tb t)) r
def wOf (u:U) (k:W→Rv) (sl:Rv):Rv:=uCA u (fun c=>k (.c c)) (fun t n=>k (.agg t n)) sl
def Ks (tb:Tbl) (K:Nat) (l:List ResultVar):TM→HP→(List W→Rv)→Rv→Rv:=List.rec (motive:=fun _=>TM→HP→(List W→Rv)→Rv→Rv) (fun _ _ k _=>k []) (fun r _ ih tm hp k sl=>Ge tb K r tm hp (fun u=>wOf u (fun w=>ih tm hp (fun l=>k (w::l)) sl) sl) sl) l
def Tj (tb:Tbl) (K:Nat) (l:List ResultVar):TM→HP→(U→Rv)→Rv→Rv:=List.rec (motive:=fun _=>TM→HP→(U→Rv)→Rv→Rv) (fun _ _ k _=>k (.tup [])) (fun r rs _=>List.rec (motive:=fun _=>TM→HP→(U→Rv)→Rv→Rv) (Ge tb K r) (fun _ _ _ tm hp k sl=>Ks tb K l tm hp (fun l=>k (.tup l)) sl) rs) l
def MW (tb:Tbl) (K:Nat) (rs:List ResultVar) (tm:TM) (hp:HP) (nx:Nat):Rv:=Tj tb K rs tm hp (fun u=> .go .ret (uU tm0 0 u) hp nx) (.no [8])
def Ku (r:Rv):Rf:=Rv.rec (motive:=fun _=>Rf) (fun _ tm hp nx=> .ok (Ac.rec (motive:=fun _=>TM→U) (fun g _=>g) (cC 0) tm) hp nx) .no r
def G5 (tb:Tbl) (K:Nat) (rs:List ResultVar) (r:Rv):Rf:=Rv.rec (motive:=fun _=>Rf) (fun e tm hp nx=>Lf.rec (motive:=fun _=>Rf) (Ku (MW tb K rs tm hp nx)) (fun _=> .no [7]) (Ku (MW tb K rs tm hp nx)) e) .no r
structure Fc where
 run:eK→List U→HP→Nat→Rf
def zp (tb:Tbl) (K:Nat) (fn:Func):Fc:=Option.rec (motive:=fun _=>Fc) ⟨fun _ _ _ _=> .no [10]⟩ (fun c=>Bool.rec (motive:=fun _=>Fc) ⟨fun _ _ _ _=> .no [14]⟩
 ⟨fun call args hp nx=>Bool.rec (motive:=fun _=>Rf) (.no [9]) (G5 tb K fn.results.toList (eB nx fun nx=>Cd.run (fE tb fn.ntmps K c) call (je args 0 tm0) hp nx)) (Nat.ble args.length fn.ntmps)⟩ (Nat.ble fn.ntmps 512)) fn.body
abbrev yp:=FuncId→Option (List U→Option U)
def IH (r:Option U) (hp:HP) (nx:Nat):Rf:=Option.rec (motive:=fun _=>Rf) (.no [13]) (fun u=> .ex u hp nx) r
def rK (tb:Tbl) (P:FuncId→Option Func) (X:yp) (KK:FuncId→Nat) (f:FuncId):Fc:=Option.rec (motive:=fun _=>Fc) (Option.rec (motive:=fun _=>Fc) ⟨fun _ _ _ _=> .no [12]⟩ (zp tb (KK f)) (P f)) (fun x=>⟨fun _ args hp nx=>IH (x args) hp nx⟩) (X f)
def vX (tb:Tbl) (P:FuncId→Option Func) (X:yp) (KK:FuncId→Nat) (d:Nat):eK:=Nat.rec (motive:=fun _=>eK) (fun _ _ _ _=> .no [11]) (fun _ ih f args hp nx=>Fc.run (rK tb P X KK f) ih args hp nx) d
def Jb (l:List UInt8):Nat→Nat→Int:=List.rec (motive:=fun _=>Nat→Nat→Int) (fun _ _=> .negSucc 0) (fun b _ ih c i=>Bool.rec (motive:=fun _=>Int) (ih c (Nat.succ i)) (.ofNat i) (Nat.beq b.toNat c)) l
def ixB (l:List U):Option U:=match l with
 | [.oth (.str s),.int .u8 (.ofNat c)]=>some (.int .i64 (Jb s.data.toList c 0))
 | _=>none
end
end
section
open Go.RowKit
theorem BH (v:V):v.isOne=v.one:=by cases v <;> rfl
theorem vO :∀ l:List V,Di l=l.all V.one
 | []=>rfl
 | v::l=>by
  show (Bool.rec (motive:=fun _=>Bool) false (Di l) v.isOne:Bool)=_
  rw [BH,vO l,List.all_cons]
  cases v.one <;> rfl
theorem aE {a b:Nat} (h:Nat.beq a b=true):a=b:=Nat.eq_of_beq_eq_true h
theorem Dj {a b:Nat} (h:a≤b):Nat.ble a b=true:=by rw [Nat.ble_eq];exact h
theorem bm {a b:Nat} (h:Nat.ble a b=true):a≤b:=Nat.le_of_ble_eq_true h
theorem Qw {l:List V} (h:gr l=true):l.length≤4096∧∀ v∈l,v.one=true:=by
 unfold gr at h
 rw [vO] at h
 cases hb:l.all V.one with
 | false=>rw [hb] at h;cases h
 | true=>
  rw [hb] at h
  have h:Nat.ble l.length Me=true:=h
  exact ⟨bm h,fun v hv=>List.all_eq_true.1 hb v hv⟩
theorem n3 (t:CT) (i:Nat):cb t i =(vf i).get t:=rfl
theorem qR (t:CT) (i:Nat) (x:C):dN t i x =(vf i).put x t:=rfl
theorem jK (t:HP) (i:Nat):bd t i =(AX i).get t:=rfl
theorem nW (t:HP) (i:Nat) (x:Bk):dq t i x =(AX i).put x t:=rfl
theorem oE {h:Nat} (hl:h<262144):AX h=yt h:=by
 unfold AX
 have:Nat.ble (Nat.succ h) 262144=true:=Dj hl
 rw [this]
theorem E7 {h:Nat} (hl :¬ h<262144):AX h =⟨fun _=> .none,fun _ s=>s⟩:=by
 unfold AX
 cases hb:Nat.ble (Nat.succ h) 262144 with
 | true=>exact absurd (bm hb) hl
 | false=>rfl
theorem vZ (t:CT) (i:Nat) (x:C):cb (dN t i x) i=x:=by rw [n3,qR,Gz]
theorem Ff {i j:Nat} (hi:i<4096) (hj:j<4096) (h:i≠j) (t:CT) (x:C):cb (dN t i x) j=cb t j:=by rw [n3,qR,Lr hi hj h,n3]
theorem pW {hp:HP} {h:Nat} (hl :¬ h<262144):bd hp h = .none:=by rw [jK,E7 hl]
theorem sx {hp:HP} {h:Nat} (hl:h<262144) (b:Bk):bd (dq hp h b) h=b:=by rw [jK,nW,oE hl,GA]
theorem Dm {hp:HP} {h j:Nat} (hl:h<262144) (hj:h≠j) (b:Bk):bd (dq hp h b) j=bd hp j:=by
 by_cases hjl:j<262144
 ·rw [jK,nW,oE hl,oE hjl,Ls hl hjl hj,jK,oE hjl]
 ·rw [pW hjl,pW hjl]
structure CsR (t:CT) (n:Nat) (cs:List V):Prop where
 len:cs.length=n
 le:n≤4096
 get :∀ i,i<n→cs[i]?=some (cb t i).toV
 one :∀ v∈cs,v.one=true
theorem C5 (t:CT) :∀ n i,(uV t n i).length=n
 | 0,_=>rfl
 | n+1,i=>by simp only [uV,List.length_cons,C5 t n]
theorem C4 (t:CT) :∀ n i j,j<n→(uV t n i)[j]?=some (cb t (i+j)).toV
 | n+1,i,0,_=>by simp only [uV,List.getElem?_cons_zero];rfl
 | n+1,i,j+1,h=>by
  simp only [uV,List.getElem?_cons_succ]
  rw [C4 t n (i+1) j (by omega),show i+1+j=i +(j+1) by omega]
theorem CsR.toL {t:CT} {n:Nat} {cs:List V} (h:CsR t n cs):toL t n=cs:=by
 apply List.ext_getElem?
 intro j
 unfold Mir.toL
 rcases Nat.lt_or_ge j n with hj|hj
 ·rw [C4 t n 0 j hj,Nat.zero_add,h.get j hj]
 ·rw [List.getElem?_eq_none (by rw [C5];exact hj),List.getElem?_eq_none (by rw [h.len];exact hj)]
theorem CsR.nil (t:CT):CsR t 0 []:=⟨rfl,by omega,fun i h=>by omega,fun v hv=>by cases hv⟩
theorem CsR.put {t:CT} {n:Nat} {cs:List V} (h:CsR t n cs) {i:Nat} (hi:i<n) {x:C} (hv:x.toV.one=true):CsR (dN t i x) n (cs.set i x.toV):=by
 have hle:=h.le
 refine ⟨by rw [List.length_set,h.len],hle,fun j hj=>?_,fun x hx=>?_⟩
 ·rw [List.getElem?_set]
  by_cases e:i=j
  ·subst e
   rw [if_pos rfl,if_pos (by rw [h.len];exact hi),vZ]
  ·rw [if_neg e,h.get j hj,Ff (by omega) (by omega) e]
 ·rcases List.mem_or_eq_of_mem_set hx with h1|h1
  ·exact h.one x h1
  ·rw [h1];exact hv
theorem CsR.push {t:CT} {n:Nat} {cs:List V} (h:CsR t n cs) (hn:n<4096) {x:C} (hv:x.toV.one=true):CsR (dN t n x) (n+1) (cs++[x.toV]):=by
 have hl:=h.len
 refine ⟨by simp [h.len],by omega,fun j hj=>?_,fun x hx=>?_⟩
 ·by_cases e:n=j
  ·subst e
   rw [vZ,List.getElem?_append_right (by omega),hl,Nat.sub_self]
   rfl
  ·rw [List.getElem?_append_left (by omega),h.get j (by omega),Ff hn (by omega) e]
 ·rcases List.mem_append.1 hx with h1|h1
  ·exact h.one x h1
  ·rw [List.mem_singleton.1 h1];exact hv
theorem A4 (v:V) :(GK v).toV=v:=by cases v <;> rfl
theorem B8 :∀ (l:List V) (i:Nat) (t:CT) (n:Nat) (cs:List V),CsR t n cs→n=i→n+l.length≤4096→(∀ v∈l,v.one=true)→CsR (Qt l i t) (n+l.length) (cs++l)
 | [],i,t,n,cs,h,_,_,_=>by simpa [Qt] using h
 | v::l,i,t,n,cs,h,e,hle,hl=>by
  subst e
  simp only [List.length_cons] at hle
  have h1:=h.push (by omega) (x:=GK v) (by rw [A4];exact hl v List.mem_cons_self)
  rw [A4] at h1
  have:=B8 l (n+1) (dN t n (GK v)) (n+1) (cs++[v]) h1 rfl (by omega) (fun x hx=>hl x (List.mem_cons_of_mem _ hx))
  rw [List.append_assoc,show n+1+l.length=n +(v::l).length by simp;omega] at this
  exact this
theorem CsR.ofL {l:List V} (h:gr l=true):CsR (ofL l) l.length l:=by
 obtain ⟨h1,h2⟩:=Qw h
 have:=B8 l 0 ct0 0 [] (.nil _) rfl (by omega) h2
 simpa [Mir.ofL] using this
theorem GT (dst:CT) (d:Nat) (src:CT) (s n:Nat):p7 dst d src s (n+1)=dN (p7 dst d src s n) (d+n) (cb src (s+n)):=rfl
def Cr (cs:List V) (d:Nat) (xs:List V):List V:=cs.take d++xs++cs.drop (d+xs.length)
theorem uc {cs:List V} {d:Nat} {xs:List V} (hd:d≤cs.length) (j:Nat) :(Cr cs d xs)[j]?=if d≤j∧j<d+xs.length then xs[j - d]? else cs[j]?:=by
 unfold Cr
 rcases Nat.lt_or_ge j d with h|h
 ·rw [if_neg (by omega),List.append_assoc,List.getElem?_append_left (by rw [List.length_take];omega),List.getElem?_take_of_lt h]
 ·rcases Nat.lt_or_ge j (d+xs.length) with h2|h2
  ·rw [if_pos ⟨h,h2⟩,List.append_assoc,List.getElem?_append_right (by rw [List.length_take];omega),List.length_take,Nat.min_eq_left hd,List.getElem?_append_left (by omega)]
  ·rw [if_neg (by omega),List.getElem?_append_right (by rw [List.length_append,List.length_take];omega),List.length_append,List.length_take,Nat.min_eq_left hd,List.getElem?_drop]
   congr 1
   omega
theorem CsR.cpy {dst src:CT} {n m:Nat} {cs xs:List V} (hd:CsR dst n cs) (hs:CsR src m xs) {d s:Nat} (h1:d≤n) :∀ k,s+k≤m→d+k≤4096→∃ r,r=Cr cs d ((xs.drop s).take k)∧CsR (p7 dst d src s k) (max n (d+k)) r
 | 0,_,_=>by
  refine ⟨_,rfl,?_⟩
  have:Cr cs d ((xs.drop s).take 0)=cs:=by simp [Cr]
  rw [this,Nat.max_eq_left (by omega)]
  exact hd
 | k+1,h2,h3=>by
  obtain ⟨r,hr,hk⟩:=CsR.cpy (dst:=dst) (src:=src) (n:=n) (m:=m) (cs:=cs) (xs:=xs) (d:=d) (s:=s) hd hs h1 k (by omega) (by omega)
  refine ⟨_,rfl,?_⟩
  rw [GT]
  have hsl:=hs.len
  have hdl:=hd.len
  have hc:=hs.get (s+k) (by omega)
  have hone :(cb src (s+k)).toV.one=true:=hs.one _ (List.mem_of_getElem? hc)
  have hlk :((xs.drop s).take k).length=k:=by rw [List.length_take,List.length_drop,hs.len];omega
  have hlk1 :((xs.drop s).take (k+1)).length=k+1:=by rw [List.length_take,List.length_drop,hs.len];omega
  have hl:r.length=max n (d+k):=hk.len
  have key:Cr cs d ((xs.drop s).take (k+1))=if d+k<r.length then r.set (d+k) (cb src (s+k)).toV else r++[(cb src (s+k)).toV]:=by
   have hj :∀ j,r[j]?=if d≤j∧j<d+k then ((xs.drop s).take k)[j - d]? else cs[j]?:=fun j=>by rw [hr,uc (by rw [hd.len];exact h1),hlk]
   have hnew :((xs.drop s).take (k+1))[k]?=some (cb src (s+k)).toV:=by rw [List.getElem?_take_of_lt (by omega),List.getElem?_drop];exact hc
   have hold :∀ i,i<k→((xs.drop s).take (k+1))[i]? =((xs.drop s).take k)[i]?:=fun i hi=>by rw [List.getElem?_take_of_lt (by omega),List.getElem?_take_of_lt hi]
   split
   ·rename_i hlt
    apply List.ext_getElem?
    intro j
    rw [uc (by rw [hd.len];exact h1),hlk1,List.getElem?_set]
    by_cases e:d+k=j
    ·subst e
     rw [if_pos (by omega),if_pos rfl,if_pos hlt,show d+k - d=k by omega]
     exact hnew
    ·rw [if_neg e,hj]
     by_cases e2:d≤j∧j<d+k
     ·rw [if_pos (by omega),if_pos e2,hold _ (by omega)]
     ·rw [if_neg (by omega),if_neg e2]
   ·rename_i hge
    have hrl:r.length=d+k:=by omega
    apply List.ext_getElem?
    intro j
    rw [uc (by rw [hd.len];exact h1),hlk1]
    rcases Nat.lt_or_ge j (d+k) with h|h
    ·rw [List.getElem?_append_left (by omega),hj]
     by_cases e2:d≤j
     ·rw [if_pos (by omega),if_pos ⟨e2,h⟩,hold _ (by omega)]
     ·rw [if_neg (by omega),if_neg (by omega)]
    ·rw [List.getElem?_append_right (by omega),hrl]
     by_cases e:j=d+k
     ·subst e
      rw [if_pos (by omega),show d+k - d=k by omega,hnew,Nat.sub_self]
      rfl
     ·rw [if_neg (by omega),List.getElem?_eq_none (by rw [hd.len];omega),List.getElem?_eq_none (by simp;omega)]
  rw [key]
  split
  ·rename_i hlt
   rw [show max n (d +(k+1))=max n (d+k) by omega]
   exact hk.put (by rw [←hl];exact hlt) hone
  ·rename_i hge
   have e:max n (d+k)=d+k:=by omega
   rw [e] at hk
   rw [show max n (d +(k+1))=d+k+1 by omega]
   exact hk.push (by omega) hone
theorem CsR.sub {src:CT} {m:Nat} {xs:List V} (hs:CsR src m xs) {s k:Nat} (h:s+k≤m):CsR (p7 ct0 0 src s k) k ((xs.drop s).take k):=by
 have hle:=hs.le
 obtain ⟨r,hr,h1⟩:=CsR.cpy (.nil ct0) hs (d:=0) (Nat.le_refl 0) k h (by omega)
 have e:r =(xs.drop s).take k:=by rw [hr];simp [Cr]
 rw [e,Nat.zero_add,Nat.max_eq_right (Nat.zero_le k)] at h1
 exact h1
theorem CsR.splice {dst src:CT} {n m:Nat} {cs xs:List V} (hd:CsR dst n cs) (hs:CsR src m xs) {d k:Nat} (h1:d+k≤n) (h2:k=m):CsR (p7 dst d src 0 k) n (splice cs d xs):=by
 have hle:=hd.le
 obtain ⟨r,hr,h3⟩:=CsR.cpy hd hs (d:=d) (s:=0) (by omega) k (by omega) (by omega)
 have e:r=Mir.splice cs d xs:=by
  rw [hr,List.drop_zero,List.take_of_length_le (by rw [hs.len];omega)]
  rfl
 rw [e,Nat.max_eq_left h1] at h3
 exact h3
theorem CsR.app {dst src:CT} {n m:Nat} {cs xs:List V} (hd:CsR dst n cs) (hs:CsR src m xs) {s k:Nat} (h:s+k≤m) (h4:n+k≤4096):CsR (p7 dst n src s k) (n+k) (cs ++(xs.drop s).take k):=by
 obtain ⟨r,hr,h3⟩:=CsR.cpy hd hs (d:=n) (s:=s) (Nat.le_refl n) k h h4
 have e:r=cs ++(xs.drop s).take k:=by
  rw [hr]
  unfold Cr
  have h5:=hd.len
  have:cs.drop (n +((xs.drop s).take k).length)=[]:=List.drop_eq_nil_of_le (by omega)
  rw [List.take_of_length_le (by omega),this,List.append_nil]
 rw [e,Nat.max_eq_right (by omega)] at h3
 exact h3
theorem uD {cs:List V} {i:Nat} {v:V} (h:i<cs.length):cs.set i v=splice cs i [v]:=by
 unfold splice
 rw [List.set_eq_take_append_cons_drop,if_pos h]
 simp
def W.wf:W→Prop
 | .c _=>True
 | .agg t n=>∃ cs,CsR t n cs
def U.wf:U→Prop
 | .agg t n=>∃ cs,CsR t n cs
 | .tup l=>∀ w∈l,w.wf
 | _=>True
def Bk.wf:Bk→Prop
 | .cells t n=>∃ cs,CsR t n cs
 | .grow _ _ t n=>∃ cs,CsR t n cs
 | _=>True
def hpW (hp:HP):Prop:=∀ h,(bd hp h).wf
theorem gb {hp:HP} {h:Nat} (hl:h<262144) {b:Bk} {B:Blk} (hb:b.toB=some B):hpH (dq hp h b)=au (hpH hp) [(h,B)]:=by
 funext k
 unfold hpH au
 simp only [find]
 by_cases e:h=k
 ·subst e
  rw [sx hl,Nat.beq_refl,hb]
  rfl
 ·rw [Dm hl e]
  have:Nat.beq h k=false:=by
   cases hb:Nat.beq h k with
   | false=>rfl
   | true=>exact absurd (aE hb) e
  rw [this]
  rfl
theorem gd {hp:HP} (h:hpW hp) {k:Nat} (hl:k<262144) {b:Bk} (hb:b.wf):hpW (dq hp k b):=fun j=>by
 by_cases e:k=j
 ·subst e;rw [sx hl];exact hb
 ·rw [Dm hl e];exact h j
theorem zu (h:Nat):bd hp0 h = .none:=by
 by_cases hl:h<262144
 ·rw [jK,oE hl];exact HV _ _
 ·exact pW hl
theorem I5:hpW hp0:=fun h=>by rw [zu];trivial
theorem Nw:hpH hp0=fun _=>none:=by funext h;unfold hpH;rw [zu];rfl
theorem Dk {hp:HP} {h:Nat} (hb:bd hp h≠ .none):h<262144:=by
 by_cases hl:h<262144
 ·exact hl
 ·exact absurd (pW hl) hb
def VLe (v w:V):Prop:=∀ (E:Env) (x:Value),aa E v x→aa E w x
theorem VLe.refl (v:V):VLe v v:=fun _ _ h=>h
theorem VLe.of_eq {v w:V} (h:v=w):VLe v w:=h▸VLe.refl v
theorem VLe.trans {u v w:V} (h:VLe u v) (k:VLe v w):VLe u w:=fun E x q=>k E x (h E x q)
theorem VLe.any (v:V):VLe v .any:=fun _ _ _=>by simp [aa]
theorem Jf (b:Bool):VLe (.bool b) (.kb b):=fun E x h=>by simpa [aa] using h
theorem OQ (cs:List V) :(Bool.rec (motive:=fun _=>U) (.oth .any) (.agg (ofL cs) cs.length) (gr cs):U).wf:=by
 cases h:gr cs with
 | false=>trivial
 | true=>exact ⟨cs,CsR.ofL h⟩
theorem Nk (cs:List V) :(Bool.rec (motive:=fun _=>W) (.c (.oth .any)) (.agg (ofL cs) cs.length) (gr cs):W).wf:=by
 cases h:gr cs with
 | false=>trivial
 | true=>exact ⟨cs,CsR.ofL h⟩
theorem lr (v:V) :(ku v).wf:=by
 cases v <;> first|exact trivial|exact OQ _|skip
 rename_i vs
 intro w hw
 obtain ⟨v,_,rfl⟩:=List.mem_map.1 hw
 cases v <;> first|exact trivial|exact Nk _
theorem OP (cs:List V):VLe (.agg cs) (Bool.rec (motive:=fun _=>U) (.oth .any) (.agg (ofL cs) cs.length) (gr cs):U).toV:=by
 cases h:gr cs with
 | false=>exact VLe.any _
 | true=>
  show VLe _ (V.agg (toL (ofL cs) cs.length))
  rw [(CsR.ofL h).toL]
  exact VLe.refl _
theorem Nj (cs:List V):VLe (.agg cs) (Bool.rec (motive:=fun _=>W) (.c (.oth .any)) (.agg (ofL cs) cs.length) (gr cs):W).toV:=by
 cases h:gr cs with
 | false=>exact VLe.any _
 | true=>
  show VLe _ (V.agg (toL (ofL cs) cs.length))
  rw [(CsR.ofL h).toL]
  exact VLe.refl _
theorem pR {E:Env} {α:Type} (f g:α→V) (h :∀ v,VLe (f v) (g v)) :∀ (vs:List α) (l:List Value),ab E (vs.map f) l→ab E (vs.map g) l
 | [],l,hl=>hl
 | v::vs,[],hl=>by simp [ab] at hl
 | v::vs,x::l,hl=>by
  simp only [List.map_cons,ab] at hl ⊢
  exact ⟨h v E x hl.1,pR f g h vs l hl.2⟩
theorem lq (v:V):VLe v (ku v).toV:=by
 cases v <;> first|exact VLe.refl _|exact Jf _|exact OP _|skip
 rename_i vs
 intro E x hx
 simp only [ku,U.toV,aa] at hx ⊢
 obtain ⟨l,rfl,hl⟩:=hx
 refine ⟨l,rfl,?_⟩
 rw [List.map_map]
 have hl:ab E (vs.map fun v=>v) l.toList:=by simpa using hl
 refine pR _ _ (fun v=>?_) vs l.toList hl
 cases v <;> first|exact VLe.refl _|exact Jf _|exact Nj _
section views
variable {G:Rv→Prop} {sl:Rv} (h0:G sl)
include h0
theorem ob {u:U} {f:IntKind→Int→Rv} (h :∀ k n,u = .int k n→G (f k n)):G (C8 u f sl):=by cases u <;> first|exact h0|exact h _ _ rfl
theorem Nv {u:U} {f:Bool→Rv} (h :∀ b,u = .kb b→G (f b)):G (uKb u f sl):=by cases u <;> first|exact h0|exact h _ rfl
theorem qq {u:U} {f:Nat→Nat→Rv} {g:Nat→Nat→Nat→Rv} (h :∀ a o,u = .ptr a o→G (f a o)) (h' :∀ a v o,u = .gp a v o→G (g a v o)):G (E5 u f g sl):=by
 cases u <;> first|exact h0|exact h _ _ rfl|exact h' _ _ _ rfl
theorem IU {u:U} {k:Nat→Nat→Nat→Nat→Nat→Rv} (h :∀ a v e o l,u = .gsl a v e o l→G (k a v e o l)):G (Sa u k sl):=by cases u <;> first|exact h0|exact h _ _ _ _ _ rfl
theorem Fw {u:U} {a b:Rv} {k:Nat→Nat→Nat→Nat→Nat→Rv} (h:u = .oth .nilsl→G a) (h':u = .oth .esl→G b) (h2 :∀ a v e o l,u = .gsl a v e o l→G (k a v e o l)):G (uSl u a b k sl):=by
 cases u with
 | oth v=>cases v <;> first|exact h0|exact h rfl|exact h' rfl
 | gsl=>exact h2 _ _ _ _ _ rfl
 | _=>exact h0
theorem SL {u:U} {k:FuncId→List V→Rv} (h :∀ f cs,u = .oth (.fn f cs)→G (k f cs)):G (uFn u k sl):=by
 cases u with
 | oth v=>cases v <;> first|exact h0|exact h _ _ rfl
 | _=>exact h0
theorem b8 {b:Bool} {r:Rv} (h:b=true→G r):G (ckR b r sl):=by
 cases b with
 | true=>exact h rfl
 | false=>exact h0
theorem IV {v:V} {r:Rv} (h:v.one=true→G r):G (Nh v r sl):=by
 unfold Nh
 rw [BH]
 cases hv:v.one with
 | true=>exact h hv
 | false=>exact h0
theorem UK {u:U} {k:C→Rv} (h :∀ c,c.toV=u.toV→c.toV.one=true→G (k c)):G (uC u k sl):=by
 cases u with
 | oth v=>exact IV h0 fun hv=>h _ rfl hv
 | agg=>exact h0
 | tup=>exact h0
 | _=>exact h _ rfl rfl
theorem DM {u:U} {k:CT→Nat→Rv} (h :∀ t n,u = .agg t n→G (k t n)):G (Nf u k sl):=by cases u <;> first|exact h0|exact h _ _ rfl
theorem Pl {u:U} {k:List W→Rv} (h :∀ l,u = .tup l→G (k l)):G (Ud u k sl):=by cases u <;> first|exact h0|exact h _ rfl
theorem IT {u:U} {k:C→Rv} {k2:CT→Nat→Rv} (h :∀ c,c.toV=u.toV→c.toV.one=true→G (k c)) (h' :∀ t n,u = .agg t n→G (k2 t n)):G (uCA u k k2 sl):=by
 cases u with
 | oth v=>exact IV h0 fun hv=>h _ rfl hv
 | agg=>exact h' _ _ rfl
 | tup=>exact h0
 | _=>exact h _ rfl rfl
theorem IR {b:Bk} {k:CT→Nat→Rv} (h :∀ t n,b = .cells t n→G (k t n)):G (bkC b k sl):=by cases b <;> first|exact h0|exact h _ _ rfl
theorem qZ {b:Bk} {k:Nat→Nat→CT→Nat→Rv} (h :∀ v e t n,b = .grow v e t n→G (k v e t n)):G (bkG b k sl):=by cases b <;> first|exact h0|exact h _ _ _ _ rfl
theorem Fv {n:Int} {k:Nat→Rv} (h :∀ m:Nat,n = .ofNat m→G (k m)):G (Kg n k sl):=by
 cases n with
 | ofNat m=>exact h m rfl
 | negSucc m=>exact h0
theorem Nt {a b:Int} {f:Nat→Nat→Rv} (h :∀ x y:Nat,a = .ofNat x→b = .ofNat y→G (f x y)):G (Qs a b f sl):=by
 cases a <;> cases b <;> first|exact h0|exact h _ _ rfl rfl
end views
theorem cV {n:Nat} {k:Nat→Rv}:eB n k=k n:=by cases n <;> rfl
theorem Qp (k:IntKind) :(mxK k:Int)=k.max:=by cases k <;> decide
theorem Nl {k:IntKind} {n:Int} (h1:0≤n) (h2:n≤k.max):k.wrap n=n:=by
 cases k <;> simp only [IntKind.wrap,IntKind.bits,IntKind.signed,IntKind.max] at h2 ⊢ <;> simp at h2 ⊢ <;> omega
theorem oW {k:IntKind} {n:Nat} {m:Int} (h:m =(n:Int)):zi k n (k.wrap m)=k.wrap m:=by
 unfold zi
 cases hb:Nat.ble n (mxK k) with
 | false=>rfl
 | true=>
  have:=bm hb
  rw [h,Nl (by omega) (by rw [←Qp];omega)]
  rfl
theorem Lt (k:IntKind) (a b:Int):OO k a b=k.wrap (a+b):=by
 cases a <;> cases b <;> first|rfl|exact oW rfl
theorem M5 (k:IntKind) (a b:Int):RW k a b=k.wrap (a - b):=by
 cases a <;> cases b <;> first|rfl|skip
 rename_i x y
 show Bool.rec (motive:=fun _=>Int) _ _ (Nat.ble y x)=_
 cases hb:Nat.ble y x with
 | false=>rfl
 | true=>
  have:=bm hb
  exact oW (by show (x:Int) - (y:Int) =((x - y:Nat):Int);omega)
theorem Mi (k:IntKind) (a b:Int):Qo k a b=k.wrap (a*b):=by
 cases a <;> cases b <;> first|rfl|exact oW rfl
theorem Pa (k:IntKind) (a:Int):cvS k a=k.wrap a:=by
 cases a <;> first|rfl|exact oW rfl
theorem DC (a b:Int):eqS a b =(a==b):=by
 cases a <;> cases b <;> first|rfl|skip
 rename_i x y
 show Nat.beq x y =((x:Int) ==(y:Int))
 cases hb:Nat.beq x y with
 | true=>rw [aE hb];simp
 | false=>
  have :¬ x=y:=fun e=>by subst e;rw [Nat.beq_refl] at hb;cases hb
  symm
  rw [beq_eq_false_iff_ne]
  intro e
  exact this (by omega)
theorem Jm (a b:Int):leS a b=decide (a≤b):=by
 cases a <;> cases b <;> first|rfl|skip
 rename_i x y
 show Nat.ble x y=decide ((x:Int)≤(y:Int))
 cases hb:Nat.ble x y with
 | true=>have:=bm hb;symm;rw [decide_eq_true_eq];omega
 | false=>
  have :¬ x≤y:=fun e=>by rw [Dj e] at hb;cases hb
  symm;rw [decide_eq_false_iff_not];omega
theorem Jq (a b:Int):ltS a b=decide (a<b):=by
 cases a <;> cases b <;> first|rfl|skip
 rename_i x y
 show Nat.ble (Nat.succ x) y=decide ((x:Int) <(y:Int))
 cases hb:Nat.ble (Nat.succ x) y with
 | true=>have:=bm hb;symm;rw [decide_eq_true_eq];omega
 | false=>
  have :¬ Nat.succ x≤y:=fun e=>by rw [Dj e] at hb;cases hb
  symm;rw [decide_eq_false_iff_not];omega
theorem FB {k k':IntKind} (h:Pr k k'=true):k=k':=by
 cases k <;> cases k' <;> first|rfl|cases h
theorem FT (b:Bool):iJ b=!b:=by cases b <;> rfl
end
section
open Go.RowKit
variable {tb:Tbl} {N K:Nat} {e:En}
structure ValOK (tb:Tbl) (N:Nat) (ev:Operand→V) (op:Op) (hp:HP) (nx:Nat) (u:U) (hp':HP):Prop where
 ex :∃ ps v dh,aH ⟨tb,fun _=>none,1,N⟩ nx (hpH hp) ev op=some (ps,v,dh)∧(∀ p∈ps,p.holds)∧VLe v u.toV∧hpH hp'=au (hpH hp) dh
 wf:u.wf
 hw:hpW hp'
structure CalOK (ev:Operand→V) (op:Op) (g:FuncId) (args:List U):Prop where
 ex :∃ c f caps,op = .call c∧c.callee = .value f∧ev f = .fn g caps∧bW caps=true∧∀ E l,ab E (c.args.toList.map ev++caps) l→ab E (args.map U.toV) l
 wf :∀ u∈args,u.wf
def bj (tb:Tbl) (N K:Nat) (e:En) (op:Op):Stp→Prop
 | .slow=>True
 | .val f=>∀ (a b c d:U) (tm:TM) (hp:HP) (nx:Nat) (G:Rv→Prop) (k:U→Rv) (sl:Rv),(∀ i,(dt K e i a b c d tm).wf)→hpW hp→G sl→
   (∀ u,ValOK tb N (fun x=>(rdS K e x a b c d tm).toV) op hp nx u hp→G (k u))→G (f a b c d tm hp nx k sl)
 | .mem f=>∀ (a b c d:U) (tm:TM) (hp:HP) (nx:Nat) (G:Rv→Prop) (k:U→HP→Rv) (sl:Rv),(∀ i,(dt K e i a b c d tm).wf)→hpW hp→G sl→
   (∀ u hp',ValOK tb N (fun x=>(rdS K e x a b c d tm).toV) op hp nx u hp'→G (k u hp'))→G (f a b c d tm hp nx k sl)
 | .cal f=>∀ (a b c d:U) (tm:TM) (G:Rv→Prop) (k:FuncId→List U→Rv) (sl:Rv),(∀ i,(dt K e i a b c d tm).wf)→G sl→
   (∀ g args,CalOK (fun x=>(rdS K e x a b c d tm).toV) op g args→G (k g args))→G (f a b c d tm k sl)
theorem eI :∀ p∈([]:List Ob),p.holds:=fun p hp=>by cases hp
theorem pC {p:Ob} (h:p.holds) :∀ q∈ [p],q.holds:=by intro q hq;rw [List.mem_singleton.1 hq];exact h
theorem vok {ev:Operand→V} {op:Op} {hp:HP} {nx:Nat} {u:U} {ps:List Ob} {v:V} (W:hpW hp) (h:aH ⟨tb,fun _=>none,1,N⟩ nx (hpH hp) ev op=some (ps,v,[])) (hps :∀ p∈ps,p.holds) (hv:VLe v u.toV) (hw:u.wf):ValOK tb N ev op hp nx u hp:=
 ⟨⟨ps,v,[],h,hps,hv,rfl⟩,hw,W⟩
theorem kf {a b c d:U} {tm:TM} (h :∀ i,(dt K e i a b c d tm).wf) (x:Operand) :(rdS K e x a b c d tm).wf:=by
 cases x with
 | tmp i=>exact h i
 | const v=>exact lr (cv v)
 | _=>trivial
theorem tvp {u:U} {a o:Nat} (h:u = .ptr a o):u.toV = .ptr a o:=by rw [h];rfl
theorem tvg {u:U} {a v o:Nat} (h:u = .gp a v o):u.toV = .gp a v o:=by rw [h];rfl
theorem tvs {u:U} {a v e o l:Nat} (h:u = .gsl a v e o l):u.toV = .gsl a v e o l:=by rw [h];rfl
theorem tvi {u:U} {k:IntKind} {n:Int} (h:u = .int k n):u.toV = .int k n:=by rw [h];rfl
theorem tvb {u:U} {b:Bool} (h:u = .kb b):u.toV = .kb b:=by rw [h];rfl
theorem tvo {u:U} {v:V} (h:u = .oth v):u.toV=v:=by rw [h];rfl
theorem tva {u:U} {t:CT} {n:Nat} {cs:List V} (hc:CsR t n cs) (h:u = .agg t n):u.toV = .agg cs:=by rw [h];show V.agg (toL t n)=_;rw [hc.toL]
theorem tvt {u:U} {l:List W} (h:u = .tup l):u.toV = .tup (l.map W.toV):=by rw [h];rfl
theorem I2 {S:Stp→Prop} {i:Nat} {k:Gt→Stp} (h :∀ g,g=dt K e i→S (k g)):S (I1 K e i k):=by
 unfold I1
 unfold dt at h
 cases h0:Nat.beq e.e0 (Nat.succ i)
 case true=>exact h _ (by rw [h0])
 rw [h0] at h
 cases h1:Nat.beq e.e1 (Nat.succ i)
 case true=>exact h _ (by rw [h1])
 rw [h1] at h
 cases h2:Nat.beq e.e2 (Nat.succ i)
 case true=>exact h _ (by rw [h2])
 rw [h2] at h
 cases h3:Nat.beq e.e3 (Nat.succ i)
 case true=>exact h _ (by rw [h3])
 rw [h3] at h
 cases h4:isK K i
 case true=>exact h _ (by rw [h4];rfl)
 exact h _ (by rw [h4])
theorem aX {S:Stp→Prop} {x:Operand} {k:Gt→Stp} (h :∀ g,g=rdS K e x→S (k g)):S (dv K e x k):=by
 cases x with
 | tmp i=>exact I2 (S:=S) (fun g hg=>h g hg)
 | const v=>
  show S (U.rec (motive:=fun _=>Stp) _ _ _ _ _ _ _ _ (ku (cv v)))
  have h :∀ g,g =(fun _ _ _ _ _=>ku (cv v))→S (k g):=h
  cases hu:ku (cv v) <;>(rw [hu] at h;exact h _ rfl)
 | global i=>exact h _ rfl
 | func f=>exact h _ rfl
theorem Cm {S:Stp→Prop} :∀ {l:List Operand} {k:List Gt→Stp},(∀ gs,gs=l.map (rdS K e)→S (k gs))→S (NC K e l k)
 | [],k,h=>h _ rfl
 | x::l,k,h=>aX (S:=S) fun g hg=>Cm (S:=S) (l:=l) fun gs hgs=>h _ (by rw [hg,hgs];rfl)
def QE (K:Nat) (e:En) (pi:Nat→PI):List (Nat×Operand)→List PG→Prop
 | [],[]=>True
 | q::l,.at o s g::gs=>pi q.1 = .at o s∧g=rdS K e q.2∧QE K e pi l gs
 | _,_=>False
theorem qG {S:Stp→Prop} (h0:S .slow) {pi:Nat→PI} :∀ {l:List (Nat×Operand)} {k:List PG→Stp},(∀ gs,QE K e pi l gs→S (k gs))→S (zY K e pi l k)
 | [],k,h=>h _ trivial
 | q::l,k,h=>by
  show S (PI.rec (motive:=fun _=>Stp) .slow (fun o s=>dv K e q.2 fun g=>zY K e pi l fun gs=>k (.at o s g::gs)) (pi q.1))
  cases hp:pi q.1 with
  | no=>exact h0
  | «at» o s=>exact aX (S:=S) fun g hg=>qG (S:=S) h0 (l:=l) fun gs hgs=>h _ ⟨hp,hg,hgs⟩
theorem qu {hp:HP} (W:hpW hp) {h:Nat} {t:CT} {n:Nat} (hg:bd hp h = .cells t n) :∃ cs,CsR t n cs∧hpH hp h=some (.cells cs)∧h<262144:=by
 have hw:=W h
 rw [hg] at hw
 obtain ⟨cs,hc⟩:=hw
 exact ⟨cs,hc,by unfold hpH;rw [hg];show some (Blk.cells (toL t n))=_;rw [hc.toL],Dk (by rw [hg];exact fun h=>by cases h)⟩
theorem gn {hp:HP} (W:hpW hp) {h v ez:Nat} {t:CT} {n:Nat} (hg:bd hp h = .grow v ez t n) :∃ cs,CsR t n cs∧hpH hp h=some (.grow v ez cs)∧h<262144:=by
 have hw:=W h
 rw [hg] at hw
 obtain ⟨cs,hc⟩:=hw
 exact ⟨cs,hc,by unfold hpH;rw [hg];show some (Blk.grow v ez (toL t n))=_;rw [hc.toL],Dk (by rw [hg];exact fun h=>by cases h)⟩
theorem AL {t:TypeId} (h:tyI tb t = .one) :∃ td,tb t=some td∧td.kind.agg=false∧td.size=1:=by
 unfold tyI at h
 split at h
 ·rename_i td ht
  refine ⟨td,ht,?_⟩
  split at h
  ·cases h
  ·rename_i ha
   split at h
   ·rename_i hs;exact ⟨by simpa using ha,hs⟩
   ·cases h
 ·cases h
theorem AK {t:TypeId} {n:Nat} (h:tyI tb t = .agg n) :∃ td,tb t=some td∧td.kind.agg=true∧td.size=n:=by
 unfold tyI at h
 split at h
 ·rename_i td ht
  refine ⟨td,ht,?_⟩
  split at h
  ·rename_i ha;cases h;exact ⟨ha,rfl⟩
  ·split at h <;> cases h
 ·cases h
theorem Ds (c:C) :(cU c).toV=c.toV:=by cases c <;> rfl
theorem Ij (c:C) :(cU c).wf:=by cases c <;> trivial
def Sh (tb:Tbl) (t:TypeId) (f:LdF):Prop:=∃ td,tb t=some td∧∀ (G:Rv→Prop) (ct:CT) (n:Nat) (cs:List V) (o:Nat) (k:U→Rv) (sl:Rv),CsR ct n cs→G sl→(∀ u v,ld td cs o = .val [] v []→v=u.toV→u.wf→G (k u))→G (f ct n o k sl)
theorem D0 {S:Stp→Prop} (h0:S .slow) {t:TypeId} {k:LdF→Stp} (h :∀ f,Sh tb t f→S (k f)):S (ldS (tyI tb t) k):=by
 cases hi:tyI tb t with
 | no=>exact h0
 | one=>
  obtain ⟨td,ht,ha,hs⟩:=AL hi
  refine h BU ⟨td,ht,fun G ct n cs o k sl hc h0 hk=>b8 h0 fun hb=>?_⟩
  have hlt:o<n:=bm hb
  refine hk _ (cb ct o).toV ?_ (Ds _).symm (Ij _)
  unfold ld
  rw [ha,hc.get o hlt]
  rfl
 | agg m=>
  obtain ⟨td,ht,ha,hs⟩:=AK hi
  refine h (BT m) ⟨td,ht,fun G ct n cs o k sl hc h0 hk=>b8 h0 fun hb=>?_⟩
  have hle:o+m≤n:=bm hb
  have hld:ld td cs o = .val [] (.agg ((cs.drop o).take m)) []:=by
   unfold ld
   rw [ha,hs,if_pos rfl,if_pos (by rw [hc.len];exact hle)]
  cases hm:Nat.beq m n with
  | false=>
   have:=hc.sub hle
   exact hk _ _ hld (by show _=V.agg (toL _ _);rw [this.toL]) ⟨_,this⟩
  | true=>
   have e1:=aE hm
   have e0:o=0:=by omega
   subst e0
   subst e1
   refine hk _ _ hld ?_ ⟨_,hc⟩
   show _=V.agg (toL ct m)
   rw [hc.toL,List.drop_zero,List.take_of_length_le (by rw [hc.len];exact Nat.le_refl _)]
theorem AM {v:V} (h:v.one=true):cellsOf v=some [v]:=by cases v <;> first|rfl|cases h
def Up (tb:Tbl) (t:TypeId) (f:StF):Prop:=∃ td,tb t=some td∧∀ (G:Rv→Prop) (x:U) (ct:CT) (n:Nat) (cs:List V) (o:Nat) (k:CT→Rv) (sl:Rv),x.wf→CsR ct n cs→G sl→
 (∀ xs ct',cellsOf x.toV=some xs→xs.length=td.size→xs.all V.one=true→o+td.size≤cs.length→CsR ct' n (splice cs o xs)→G (k ct'))→G (f x ct n o k sl)
theorem Q6 {S:Stp→Prop} (h0:S .slow) {t:TypeId} {k:StF→Stp} (h :∀ f,Up tb t f→S (k f)):S (stS (tyI tb t) k):=by
 cases hi:tyI tb t with
 | no=>exact h0
 | one=>
  obtain ⟨td,ht,ha,hs⟩:=AL hi
  refine h Oc ⟨td,ht,fun G x ct n cs o k sl hx hc h0 hk=>b8 h0 fun hb=>UK h0 fun c hcv h1=>?_⟩
  have hlt:o<n:=bm hb
  rw [hcv] at h1
  refine hk [x.toV] _ (AM h1) (by rw [hs];rfl) (by simp [h1]) (by rw [hs,hc.len];exact hlt) ?_
  rw [←uD (by rw [hc.len];exact hlt),←hcv]
  exact hc.put hlt (by rw [hcv];exact h1)
 | agg m=>
  obtain ⟨td,ht,ha,hs⟩:=AK hi
  refine h (Oa m) ⟨td,ht,fun G x ct n cs o k sl hx hc h0 hk=>DM h0 fun xt m' hxe=>b8 h0 fun hb=>b8 h0 fun hle=>?_⟩
  have e1:m=m':=aE hb
  subst e1
  subst hxe
  obtain ⟨xs,hxs⟩:=hx
  have hle:o+m≤n:=bm hle
  have hall:xs.all V.one=true:=List.all_eq_true.2 hxs.one
  have hcl:cellsOf (U.agg xt m).toV=some xs:=by show some (toL xt m)=_;rw [hxs.toL]
  cases hm:Nat.beq m n with
  | false=>exact hk xs _ hcl (by rw [hs,hxs.len]) hall (by rw [hs,hc.len];exact hle) (hc.splice hxs hle rfl)
  | true=>
   have e1:=aE hm
   subst e1
   have e0:o=0:=by omega
   subst e0
   refine hk xs _ hcl (by rw [hs,hxs.len]) hall (by rw [hs,hc.len];exact hle) ?_
   have:splice cs 0 xs=xs:=by
    unfold splice
    rw [List.take_zero,List.nil_append,List.drop_eq_nil_of_le (by rw [hc.len,hxs.len];omega),List.append_nil]
   rw [this]
   exact hxs
theorem Ig {t:TypeId} {x:Operand}:bj tb N K e (.load t x) (Np t x K e tb):=by
 refine D0 (S:=bj tb N K e (.load t x)) trivial fun f hf=>aX (S:=bj tb N K e (.load t x)) fun gx hgx=>?_
 subst hgx
 intro a b c d tm hp nx G k sl Wg W h0 h
 obtain ⟨td,ht,hf⟩:=hf
 refine qq h0 (fun q o hx=>IR h0 fun ct n hg=>?_) (fun q v o hx=>qZ h0 fun v' ez ct n hg=>b8 h0 fun hb=>?_)
 ·obtain ⟨cs,hc,hH,_⟩:=qu W hg
  refine hf G ct n cs o k sl hc h0 fun u v hl hv hw=>h u (vok W (ps:= []) (v:=v) ?_ eI (VLe.of_eq hv) hw)
  simp only [aH,b7,bO,ht,tvp hx,fo,lT,hH,hl]
 ·obtain ⟨cs,hc,hH,_⟩:=gn W hg
  have e1:=aE hb
  subst e1
  refine hf G ct n cs o k sl hc h0 fun u v' hl hv hw=>h u (vok W (ps:= []) (v:=v') ?_ eI (VLe.of_eq hv) hw)
  simp only [aH,b7,bO,ht,tvg hx,fo,hH,hl,if_true]
theorem GN {t:TypeId} {x y:Operand}:bj tb N K e (.store t x y) (Ii t x y K e tb):=by
 refine Q6 (S:=bj tb N K e (.store t x y)) trivial fun f hf=>aX (S:=bj tb N K e (.store t x y)) fun gx hgx=>aX (S:=bj tb N K e (.store t x y)) fun gy hgy=>?_
 subst hgx
 subst hgy
 intro a b c d tm hp nx G k sl Wg W h0 h
 obtain ⟨td,ht,hf⟩:=hf
 refine qq h0 (fun q o hx=>IR h0 fun ct n hg=>?_) (fun q v o hx=>qZ h0 fun v' ez ct n hg=>b8 h0 fun hb=>?_)
 ·obtain ⟨cs,hc,hH,hl⟩:=qu W hg
  refine hf G _ ct n cs o _ sl (kf Wg y) hc h0 fun xs ct' hcl hlen hall hle hct=>h _ _ ⟨⟨[],.tup [],[(q,.cells (splice cs o xs))],?_,eI,VLe.refl _,?_⟩,fun w hw=>(by cases hw),gd W hl ⟨_,hct⟩⟩
  ·simp only [aH,b7,ht,tvp hx,fu,cZ,oU,hcl,hlen,hall,hH,if_true,and_self,hle]
  ·rw [gb hl (B:= .cells (splice cs o xs))]
   show some (Blk.cells (toL ct' n))=_
   rw [hct.toL]
 ·obtain ⟨cs,hc,hH,hl⟩:=gn W hg
  have e1:=aE hb
  subst e1
  refine hf G _ ct n cs o _ sl (kf Wg y) hc h0 fun xs ct' hcl hlen hall hle hct=>h _ _ ⟨⟨[],.tup [],[(q,.grow v ez (splice cs o xs))],?_,eI,VLe.refl _,?_⟩,fun w hw=>(by cases hw),gd W hl ⟨_,hct⟩⟩
  ·simp only [aH,b7,ht,tvg hx,fu,cZ,hcl,hlen,hall,hH,if_true,and_self,hle]
  ·rw [gb hl (B:= .grow v ez (splice cs o xs))]
   show some (Blk.grow v ez (toL ct' n))=_
   rw [hct.toL]
theorem cMove_ok {x:Operand}:bj tb N K e (.move x) (Fb x K e tb)∧bj tb N K e (.assign x) (Fb x K e tb):=by
 constructor
 ·refine aX (S:=bj tb N K e (.move x)) fun gx hgx=>?_
  subst hgx
  intro a b c d tm hp nx G k sl Wg W h0 h
  exact h _ (vok W (ps:= []) (v:=(rdS K e x a b c d tm).toV) (by simp only [aH,b7,bO]) eI (VLe.refl _) (kf Wg x))
 ·refine aX (S:=bj tb N K e (.assign x)) fun gx hgx=>?_
  subst hgx
  intro a b c d tm hp nx G k sl Wg W h0 h
  exact h _ (vok W (ps:= []) (v:=(rdS K e x a b c d tm).toV) (by simp only [aH,b7,bO]) eI (VLe.refl _) (kf Wg x))
theorem Ih {p x y:Operand}:bj tb N K e (.pick p x y) (Nq p x y K e tb):=by
 refine aX (S:=bj tb N K e (.pick p x y)) fun gp hgp=>aX (S:=bj tb N K e (.pick p x y)) fun gx hgx=>aX (S:=bj tb N K e (.pick p x y)) fun gy hgy=>?_
 subst hgp;subst hgx;subst hgy
 intro a b c d tm hp nx G k sl Wg W h0 h
 refine Nv h0 fun q hq=>?_
 cases q with
 | true=>exact h _ (vok W (ps:= []) (v:=(rdS K e x a b c d tm).toV) (by simp only [aH,b7,bO,tvb hq,qk]) eI (VLe.refl _) (kf Wg x))
 | false=>exact h _ (vok W (ps:= []) (v:=(rdS K e y a b c d tm).toV) (by simp only [aH,b7,bO,tvb hq,qk]) eI (VLe.refl _) (kf Wg y))
theorem Dg {t:TypeId} {z:CT} {n:Nat} (h:yl tb t = .at z n) :∃ td,tb t=some td∧CsR z n td.zero:=by
 unfold yl at h
 split at h
 ·rename_i td ht
  cases ho:gr td.zero with
  | false=>rw [ho] at h;cases h
  | true=>
   rw [ho] at h
   cases h
   exact ⟨td,ht,CsR.ofL ho⟩
 ·cases h
theorem tp {G:Rv→Prop} {m:Nat} {hp:HP} {b:Bk} {u:U} {k:U→HP→Rv} {sl:Rv} (h0:G sl) (h:m<262144→G (k u (dq hp m b))):G (Hj m hp b u k sl):=b8 h0 fun hb=>h (bm hb)
theorem GI {t:TypeId}:bj tb N K e (.alloc t) (Dp t K e tb):=by
 unfold Dp
 cases hz:yl tb t with
 | no=>trivial
 | «at» z n=>
  obtain ⟨td,ht,hc⟩:=Dg hz
  intro a b c d tm hp nx G k sl Wg W h0 h
  show G (eB nx _)
  rw [cV]
  refine tp h0 fun hm=>h _ _ ⟨⟨[],.ptr nx 0,[(nx,.cells td.zero)],by simp only [aH,b7,bO,ht,rU],eI,VLe.refl _,gb hm ?_⟩,trivial,gd W hm ⟨_,hc⟩⟩
  show some (Blk.cells (toL z n))=_
  rw [hc.toL]
theorem LA {t:TypeId} {x:Operand}:bj tb N K e (.box t x) (Sp t x K e tb):=by
 refine aX (S:=bj tb N K e (.box t x)) fun gx hgx=>?_
 subst hgx
 intro a b c d tm hp nx G k sl Wg W h0 h
 show G (eB nx _)
 rw [cV]
 have hw:=kf Wg x
 refine IT h0 (fun c1 hc1 h1=>tp h0 fun hm=>?_) fun t' n hx=>tp h0 fun hm=>?_
 ·have hc:CsR (dN ct0 0 c1) 1 ([]++[c1.toV]):=(CsR.nil ct0).push (by omega) h1
  rw [List.nil_append,hc1] at hc
  rw [hc1] at h1
  refine h _ _ ⟨⟨[],.ptr nx 0,[(nx,.cells [(rdS K e x a b c d tm).toV])],by simp only [aH,b7,bO,AM h1],eI,VLe.refl _,gb hm ?_⟩,trivial,gd W hm ⟨_,hc⟩⟩
  show some (Blk.cells (toL _ 1))=_
  rw [hc.toL]
 ·rw [hx] at hw
  obtain ⟨cs,hc⟩:=hw
  refine h _ _ ⟨⟨[],.ptr nx 0,[(nx,.cells cs)],by simp only [aH,b7,bO,tva hc hx,cellsOf],eI,VLe.refl _,gb hm ?_⟩,trivial,gd W hm ⟨_,hc⟩⟩
  show some (Blk.cells (toL t' n))=_
  rw [hc.toL]
theorem LV {t:TypeId} {f d:Nat} (h:LU tb t f=some d) :∃ td fs ft tf,tb t=some td∧td.kind = .struct fs∧fs[f]?=some (d,ft)∧tb ft=some tf∧¬ tf.size=0:=by
 unfold LU at h
 split at h
 case h_2=>cases h
 rename_i td ht
 split at h
 case h_2=>cases h
 rename_i fs hk
 split at h
 case h_2=>cases h
 rename_i o ft hf
 split at h
 case h_2=>cases h
 rename_i tf htf
 split at h
 ·cases h
 ·rename_i hs
  cases h
  exact ⟨td,fs,ft,tf,ht,hk,hf,htf,hs⟩
theorem O1 {t:TypeId} {x:Operand} {f:Nat}:bj tb N K e (.fieldAddr t x f) (cFA t x f K e tb):=by
 unfold cFA
 cases hd:LU tb t f with
 | none=>trivial
 | some o1=>
  obtain ⟨td,fs,ft,tf,ht,hk,hf,htf,hs⟩:=LV hd
  refine aX (S:=bj tb N K e (.fieldAddr t x f)) fun gx hgx=>?_
  subst hgx
  intro a b c d tm hp nx G k sl Wg W h0 h
  refine qq h0 (fun q o hx=>?_) (fun q v o hx=>?_)
  ·exact h _ (vok W (ps:= []) (v:= .ptr q (o+o1)) (by simp only [aH,b7,bO,ht,tvp hx,jR,rW,hk,hf,htf,hs,if_false]) eI (VLe.refl _) trivial)
  ·exact h _ (vok W (ps:= []) (v:= .gp q v (o+o1)) (by simp only [aH,b7,bO,ht,tvg hx,jR,hk,hf,htf,hs,if_false]) eI (VLe.refl _) trivial)
theorem O2 {t:TypeId} {x:Operand} {f:Nat}:bj tb N K e (.field t x f) (cFV t x f K e tb):=by
 unfold cFV
 cases hv:Pk tb t f with
 | no=>trivial
 | «at» o i=>
  unfold Pk at hv
  split at hv
  case h_2=>cases hv
  rename_i td ht
  split at hv
  case h_2=>cases hv
  rename_i fs hk
  split at hv
  case h_2=>cases hv
  rename_i o' ft hf
  cases hv
  refine D0 (S:=bj tb N K e (.field t x f)) trivial fun f1 hf1=>aX (S:=bj tb N K e (.field t x f)) fun gx hgx=>?_
  subst hgx
  intro a b c d tm hp nx G k sl Wg W h0 h
  obtain ⟨tf,htf,hf1⟩:=hf1
  have hw:=kf Wg x
  refine DM h0 fun ct n hx=>?_
  have hx0:=hx
  rw [hx] at hw
  obtain ⟨cs,hc⟩:=hw
  refine hf1 G ct n cs _ k sl hc h0 fun u v hl hv hw=>h u (vok W (ps:= []) (v:=v) ?_ eI (VLe.of_eq hv) hw)
  simp only [aH,b7,bO,ht,tva hc hx0,ir,hk,hf,htf,hl]
theorem O3 {t:TypeId} {x i:Operand}:bj tb N K e (.indexAddr t x i) (cIA t x i K e tb):=by
 unfold cIA
 cases hx:L2 tb t with
 | no=>trivial
 | sl esz=>
  unfold L2 at hx
  split at hx
  case h_2=>cases hx
  rename_i td ht
  split at hx
  case h_2=>split at hx <;> cases hx
  case h_3=>cases hx
  rename_i et hk
  split at hx
  case h_2=>cases hx
  rename_i te hte
  cases hx
  refine aX (S:=bj tb N K e (.indexAddr t x i)) fun gx hgx=>aX (S:=bj tb N K e (.indexAddr t x i)) fun gi hgi=>?_
  subst hgx;subst hgi
  intro a b c d tm hp nx G k sl Wg W h0 h
  refine ob h0 fun ik n hi=>Fv h0 fun m hn=>IU h0 fun q v e' o l hu=>b8 h0 fun hb=>qZ h0 fun v' e2 ct n2 hg=>b8 h0 fun h1=>b8 h0 fun h2=>b8 h0 fun h3=>?_
  subst hn
  obtain ⟨cs,hc,hH,_⟩:=gn W hg
  have hlt:m<l:=bm hb
  have e1:=aE h1
  have e3:=aE h2
  have e4:=aE h3
  subst e1
  subst e3
  subst e4
  exact h _ (vok W (ps:= [.rng (.ofNat m) l]) (v:= .gp q v ((o+m)*te.size)) (by simp only [aH,b7,bO,ht,tvs hu,tvi hi,dC,hk,hte,hH,and_self,if_true];rfl) (pC ⟨by show (0:Int)≤(m:Int);omega,by show (m:Int)<l;omega⟩) (VLe.refl _) trivial)
 | ar l esz=>
  unfold L2 at hx
  split at hx
  case h_2=>cases hx
  rename_i td ht
  split at hx
  case h_1=>split at hx <;> cases hx
  case h_3=>cases hx
  rename_i l' et hk
  split at hx
  case h_2=>cases hx
  rename_i te hte
  cases hx
  refine aX (S:=bj tb N K e (.indexAddr t x i)) fun gx hgx=>aX (S:=bj tb N K e (.indexAddr t x i)) fun gi hgi=>?_
  subst hgx;subst hgi
  intro a b c d tm hp nx G k sl Wg W h0 h
  refine ob h0 fun ik n hi=>Fv h0 fun m hn=>b8 h0 fun hb=>qq h0 (fun q o hu=>?_) (fun q v o hu=>?_)
  ·have hlt:m<l:=bm hb
   subst hn
   exact h _ (vok W (ps:= [.rng (.ofNat m) l]) (v:= .ptr q (o+m*te.size)) (by simp only [aH,b7,bO,ht,tvp hu,tvi hi,dC,oQ,hk,hte];rfl) (pC ⟨by show (0:Int)≤(m:Int);omega,by show (m:Int)<l;omega⟩) (VLe.refl _) trivial)
  ·have hlt:m<l:=bm hb
   subst hn
   exact h _ (vok W (ps:= [.rng (.ofNat m) l]) (v:= .gp q v (o+m*te.size)) (by simp only [aH,b7,bO,ht,tvg hu,tvi hi,dC,hk,hte];rfl) (pC ⟨by show (0:Int)≤(m:Int);omega,by show (m:Int)<l;omega⟩) (VLe.refl _) trivial)
theorem LC {t:TypeId} {x i:Operand}:bj tb N K e (.index t x i) (O4 t x i K e tb):=by
 unfold O4
 cases hx:Py tb t with
 | no=>trivial
 | «at» l esz ti=>
  unfold Py at hx
  split at hx
  case h_2=>cases hx
  rename_i td ht
  split at hx
  case h_2=>cases hx
  rename_i l' et hk
  split at hx
  case h_2=>cases hx
  rename_i te hte
  cases hx
  refine D0 (S:=bj tb N K e (.index t x i)) trivial fun f1 hf1=>aX (S:=bj tb N K e (.index t x i)) fun gx hgx=>aX (S:=bj tb N K e (.index t x i)) fun gi hgi=>?_
  subst hgx;subst hgi
  intro a b c d tm hp nx G k sl Wg W h0 h
  obtain ⟨tf,htf,hf1⟩:=hf1
  rw [hte] at htf
  cases htf
  have hw:=kf Wg x
  refine ob h0 fun ik n hi=>Fv h0 fun m hn=>b8 h0 fun hb=>DM h0 fun ct n1 hx=>?_
  subst hn
  have hx0:=hx
  rw [hx] at hw
  obtain ⟨cs,hc⟩:=hw
  have hlt:m<l:=bm hb
  refine hf1 G ct n1 cs _ k sl hc h0 fun u v hl hv hw=>h u (vok W (ps:= [.rng (.ofNat m) l]) (v:=v) ?_ (pC ⟨by show (0:Int)≤(m:Int);omega,by show (m:Int)<l;omega⟩) (VLe.of_eq hv) hw)
  have hl:ld te cs ((Int.ofNat m).toNat*te.size) = .val [] v []:=hl
  simp only [aH,b7,bO,ht,tva hc hx0,tvi hi,lS,hk,hte,hl]
theorem Lz {op:BinOp} {t t2:TypeId} {x y:Operand}:bj tb N K e (.binOp op t x y t2) (O0 op t x y t2 K e tb):=by
 unfold O0
 cases hty:R8 tb t with
 | false=>trivial
 | true=>
  obtain ⟨td,ht⟩ :∃ td,tb t=some td:=by
   unfold R8 at hty
   split at hty
   ·exact ⟨_,by assumption⟩
   ·cases hty
  have main :∀ f:Gy,(∀ (ik:IntKind) (p q:Int) (G:Rv→Prop) (k:U→Rv) (sl:Rv),G sl→(∀ u ps v,fF td op (.int ik p) (.int ik q) = .val ps v []→(∀ p∈ps,p.holds)→VLe v u.toV→u.wf→G (k u))→G (f ik p q k sl))→
    bj tb N K e (.binOp op t x y t2) (dv K e x fun gx=>dv K e y fun gy=> .val fun a b c d tm _ _=>Lw f (gx a b c d tm) (gy a b c d tm)):=fun f hf=>by
   refine aX (S:=bj tb N K e (.binOp op t x y t2)) fun gx hgx=>aX (S:=bj tb N K e (.binOp op t x y t2)) fun gy hgy=>?_
   subst hgx;subst hgy
   intro a b c d tm hp nx G k sl Wg W h0 h
   refine ob h0 fun ik p hx=>ob h0 fun ik' q hy=>b8 h0 fun hk=>?_
   have e1:=FB hk
   subst e1
   refine hf ik p q G k sl h0 fun u ps v hr hps hv hw=>h u (vok W (ps:=ps) (v:=v) ?_ hps hv hw)
   simp only [aH,b7,bO,ht,tvi hx,tvi hy,hr]
  have bo :∀ (f:Gy) (r s:IntKind→Int→Int→Bool),(∀ ik p q k sl,f ik p q k sl=k (.kb (r ik p q)))→(∀ ik p q,r ik p q=s ik p q)→(∀ ik p q,fF td op (.int ik p) (.int ik q) = .val [] (.bool (s ik p q)) [])→
    bj tb N K e (.binOp op t x y t2) (dv K e x fun gx=>dv K e y fun gy=> .val fun a b c d tm _ _=>Lw f (gx a b c d tm) (gy a b c d tm)):=fun f r s h1 h2 h3=>main f fun ik p q G k sl h0 h=>by
   rw [h1]
   exact h _ [] _ (h3 ik p q) eI (by rw [h2];exact Jf _) trivial
  have nu :∀ (f:Gy) (r s:IntKind→Int→Int→Int),(∀ ik p q k sl,f ik p q k sl=k (.int ik (r ik p q)))→(∀ ik p q,r ik p q=s ik p q)→(∀ ik p q,fF td op (.int ik p) (.int ik q) = .val [] (.int ik (s ik p q)) [])→
    bj tb N K e (.binOp op t x y t2) (dv K e x fun gx=>dv K e y fun gy=> .val fun a b c d tm _ _=>Lw f (gx a b c d tm) (gy a b c d tm)):=fun f r s h1 h2 h3=>main f fun ik p q G k sl h0 h=>by
   rw [h1]
   exact h _ [] _ (h3 ik p q) eI (by rw [h2];exact VLe.refl _) trivial
  cases op with
  | add=>exact nu SD (fun ik p q=>OO ik p q) (fun ik p q=>ik.wrap (p+q)) (fun _ _ _ _ _=>rfl) Lt (fun ik p q=>by simp only [fF,if_true])
  | sub=>exact nu SI (fun ik p q=>RW ik p q) (fun ik p q=>ik.wrap (p - q)) (fun _ _ _ _ _=>rfl) M5 (fun ik p q=>by simp only [fF,if_true])
  | mul=>exact nu SF (fun ik p q=>Qo ik p q) (fun ik p q=>ik.wrap (p*q)) (fun _ _ _ _ _=>rfl) Mi (fun ik p q=>by simp only [fF,if_true])
  | quo=>
   refine main SG fun ik p q G k sl h0 h=>Nt h0 fun m n ha hb=>b8 h0 fun h1=>?_
   have h1:1≤n:=bm h1
   subst ha;subst hb
   refine h _ [.ne0 (.ofNat n)] (.int ik (ik.wrap ((Int.ofNat m).tdiv (.ofNat n)))) (by simp only [fF,if_true]) (pC (by show ¬(n:Int)=0;omega)) ?_ trivial
   have:zi ik (Nat.div m n) (ik.wrap ((Int.ofNat m).tdiv (.ofNat n)))=ik.wrap ((Int.ofNat m).tdiv (.ofNat n)):=oW (by rfl)
   show VLe _ (V.int ik (zi ik (Nat.div m n) _))
   rw [this]
   exact VLe.refl _
  | rem=>
   refine main SH fun ik p q G k sl h0 h=>Nt h0 fun m n ha hb=>b8 h0 fun h1=>?_
   have h1:1≤n:=bm h1
   subst ha;subst hb
   exact h _ [.ne0 (.ofNat n)] (.int ik ((Int.ofNat m).tmod (.ofNat n))) (by simp only [fF,if_true]) (pC (by show ¬(n:Int)=0;omega)) (VLe.refl _) trivial
  | and=>trivial
  | or=>trivial
  | xor=>trivial
  | shl=>trivial
  | shr=>trivial
  | andNot=>trivial
  | eql=>exact bo fEq (fun _ p q=>eqS p q) (fun _ p q=>p==q) (fun _ _ _ _ _=>rfl) (fun _=>DC) (fun ik p q=>by simp only [fF,if_true])
  | neq=>exact bo fNe (fun _ p q=>iJ (eqS p q)) (fun _ p q=>p != q) (fun _ _ _ _ _=>rfl) (fun _ p q=>by rw [FT,DC];rfl) (fun ik p q=>by simp only [fF,if_true])
  | lss=>exact bo fLt (fun _ p q=>ltS p q) (fun _ p q=>decide (p<q)) (fun _ _ _ _ _=>rfl) (fun _=>Jq) (fun ik p q=>by simp only [fF,if_true])
  | leq=>exact bo fLe (fun _ p q=>leS p q) (fun _ p q=>decide (p≤q)) (fun _ _ _ _ _=>rfl) (fun _=>Jm) (fun ik p q=>by simp only [fF,if_true])
  | gtr=>exact bo fGt (fun _ p q=>ltS q p) (fun _ p q=>decide (p>q)) (fun _ _ _ _ _=>rfl) (fun _ p q=>Jq q p) (fun ik p q=>by simp only [fF,if_true])
  | geq=>exact bo fGe (fun _ p q=>leS q p) (fun _ p q=>decide (p≥q)) (fun _ _ _ _ _=>rfl) (fun _ p q=>Jm q p) (fun ik p q=>by simp only [fF,if_true])
theorem O7 {op:UnOp} {t:TypeId} {x:Operand}:bj tb N K e (.unOp op t x) (cUn op t x K e tb):=by
 cases op with
 | not=>
  refine aX (S:=bj tb N K e (.unOp .not t x)) fun gx hgx=>?_
  subst hgx
  intro a b c d tm hp nx G k sl Wg W h0 h
  refine Nv h0 fun q hx=>h _ (vok W (ps:= []) (v:= .kb (!q)) (by simp only [aH,b7,bO,IG,tvb hx]) eI (by rw [←FT];exact VLe.refl _) trivial)
 | _=>trivial
theorem Ie {s t:TypeId} {x:Operand}:bj tb N K e (.convert s t x) (Ic s t x K e tb):=by
 unfold Ic
 cases hk:cvI tb s t with
 | none=>trivial
 | some ik=>
  unfold cvI at hk
  split at hk
  case h_2=>cases hk
  rename_i ts td hs hd
  split at hk
  case h_2=>cases hk
  rename_i k1 k2 hks hkd
  cases hk
  refine aX (S:=bj tb N K e (.convert s t x)) fun gx hgx=>?_
  subst hgx
  intro a b c d tm hp nx G k sl Wg W h0 h
  refine ob h0 fun ik' n hx=>h _ (vok W (ps:= []) (v:= .int ik (ik.wrap n)) (by simp only [aH,b7,bO,hs,hd,rV,y7,hks,hkd,tvi hx]) eI (by rw [←Pa];exact VLe.refl _) trivial)
theorem sE (ev:Operand→U) :∀ l:List Operand,Fe l ev=l.map fun x=>(ev x).toV
 | []=>rfl
 | x::l=>by show (ev x).toV::Fe l ev=_;rw [sE ev l];rfl
theorem O6 {fn:Fn} {first caps:Array Operand}:bj tb N K e (.makeFunc fn first caps) (cMF fn first caps K e tb):=by
 unfold cMF
 cases fn with
 | func f=>
  show bj tb N K e _ (Bool.rec (motive:=fun _=>Stp) .slow _ (Nat.beq first.size 0))
  cases hb:Nat.beq first.size 0 with
  | false=>trivial
  | true=>
   have hs:=aE hb
   intro a b c d tm hp nx G k sl Wg W h0 h
   refine b8 h0 fun hpl=>?_
   rw [sE] at hpl
   have hf0:first.toList=[]:=by simpa using hs
   exact h _ (vok W (ps:= []) (v:= .fn f (caps.toList.map fun x=>(rdS K e x a b c d tm).toV)) (by simp only [aH,b7,bO,hf0,List.map_nil];rw [Ew hpl]) eI (by rw [sE];exact VLe.refl _) trivial)
 | _=>trivial
theorem Sf (w:W) :(wU w).toV=w.toV:=by
 cases w with
 | c x=>exact Ds x
 | agg t n=>rfl
theorem Ue {w:W} (h:w.wf) :(wU w).wf:=by
 cases w with
 | c x=>exact Ij x
 | agg t n=>exact h
theorem Nu {G:Rv→Prop} {sl:Rv} (h0:G sl) {k:U→Rv} :∀ (i:Nat) (l:List W),(∀ w,l[i]?=some w→G (k (wU w)))→G (Tc i l k sl)
 | 0,[],_=>h0
 | 0,w::_,h=>h w rfl
 | _+1,[],_=>h0
 | i+1,_::l,h=>Nu h0 i l h
theorem LB {x:Operand} {i:Nat}:bj tb N K e (.extract x i) (Sr x i K e tb):=by
 refine aX (S:=bj tb N K e (.extract x i)) fun gx hgx=>?_
 subst hgx
 intro a b c d tm hp nx G k sl Wg W h0 h
 have hw:=kf Wg x
 refine Pl h0 fun l hx=>Nu h0 i l fun w hl=>?_
 have hx0:=hx
 rw [hx] at hw
 exact h _ (vok W (ps:= []) (v:=w.toV) (by simp only [aH,b7,bO,mN,tvt hx0,List.getElem?_map,hl,Option.map_some]) eI (VLe.of_eq (Sf w).symm) (Ue (hw w (List.mem_of_getElem? hl))))
theorem LF {x:Operand}:bj tb N K e (.nilCheck x) (Ss x K e tb):=by
 refine aX (S:=bj tb N K e (.nilCheck x)) fun gx hgx=>?_
 subst hgx
 intro a b c d tm hp nx G k sl Wg W h0 h
 refine qq h0 (fun q o hx=>?_) (fun q v o hx=>?_)
 ·exact h _ (vok W (ps:= []) (v:= .ptr q o) (by simp only [aH,b7,bO,Bm,tvp hx]) eI (VLe.refl _) trivial)
 ·exact h _ (vok W (ps:= []) (v:= .gp q v o) (by simp only [aH,b7,bO,Bm,tvg hx]) eI (VLe.refl _) trivial)
theorem tj {G:Rv→Prop} {sl:Rv} (h0:G sl) {a b c d:U} {tm:TM} (Wg :∀ i,(dt K e i a b c d tm).wf) {pi:Nat→PI} {f:Nat→Option (Nat×Nat)} (hf :∀ i o s,pi i = .at o s→f i=some (o,s)) {n:Nat} :∀ {l:List (Nat×Operand)} {gs:List PG},QE K e pi l gs→∀ {t:CT} {cs:List V} {k:CT→Rv},CsR t n cs→
  (∀ t' cs',CsR t' n cs'→iw f cs (l.map fun p=>(p.1,(rdS K e p.2 a b c d tm).toV))=some cs'→G (k t'))→G (IL a b c d tm n gs t k sl)
 | [],[],_,t,cs,k,hc,h=>h t cs hc rfl
 | q::l,.at o s g::gs,hp,t,cs,k,hc,h=>by
  obtain ⟨hp1,hp2,hp3⟩:=hp
  subst hp2
  have hfi:=hf _ _ _ hp1
  have hw:=kf Wg q.2
  refine b8 h0 fun hle=>?_
  have hle:o+s≤n:=bm hle
  refine IT h0 (fun x hx h1=>b8 h0 fun hs=>?_) fun xt m hx=>b8 h0 fun hs=>?_
  ·have e1:s=1:=aE hs
   subst e1
   rw [hx] at h1
   refine tj h0 Wg hf hp3 (hc.put (i:=o) (x:=x) (by omega) (by rw [hx];exact h1)) fun t' cs' hc' hfl=>h t' cs' hc' ?_
   simp only [List.map_cons,iw,hfi,AM h1,List.length_singleton,if_true,hc.len,hle]
   rw [←uD (by rw [hc.len];omega),←hx]
   exact hfl
  ·have e1:s=m:=aE hs
   subst e1
   have hx0:=hx
   rw [hx] at hw
   obtain ⟨xs,hxs⟩:=hw
   refine tj h0 Wg hf hp3 (hc.splice hxs hle rfl) fun t' cs' hc' hfl=>h t' cs' hc' ?_
   simp only [List.map_cons,iw,hfi,tva hxs hx0,cellsOf,hxs.len,if_true,hc.len,hle]
   exact hfl
 | [],.at _ _ _::_,h,_,_,_,_,_=>h.elim
 | _::_,[],h,_,_,_,_,_=>h.elim
theorem GJ {t:TypeId} {parts:Array (Nat×Operand)}:bj tb N K e (.build t parts) (Dq t parts K e tb):=by
 unfold Dq
 cases hb:yw tb t with
 | false=>trivial
 | true=>
  cases hz:yl tb t with
  | no=>trivial
  | «at» z n=>
   obtain ⟨td,ht,hc⟩:=Dg hz
   refine qG (S:=bj tb N K e (.build t parts)) trivial fun gs hgs=>?_
   intro a b c d tm hp nx G k sl Wg W h0 h
   unfold yw at hb
   rw [ht] at hb
   simp only at hb
   split at hb
   ·rename_i fs hk
    refine tj h0 Wg (f:=fun i=>(fs[i]?).map fun q=>(q.1,((tb q.2).map TD.size).getD 0)) (fun i o s hi=>?_) hgs hc fun t' cs' hc' hfl=>?_
    ·unfold Kd at hi
     rw [ht] at hi
     simp only [hk] at hi
     split at hi
     ·rename_i o' ft hft
      split at hi
      ·rename_i tf htf
       cases hi
       simp [hft,htf]
      ·cases hi
     ·cases hi
    ·exact h _ (vok W (ps:= []) (v:= .agg cs') (by simp only [aH,b7,bO,ht,mM,hk,hb,if_true,hfl]) eI (by show VLe _ (V.agg (toL t' n));rw [hc'.toL];exact VLe.refl _) ⟨_,hc'⟩)
   ·rename_i l et hk
    obtain ⟨te,hte⟩:=Option.isSome_iff_exists.1 hb
    refine tj h0 Wg (f:=fun i=>some (i*te.size,te.size)) (fun i o s hi=>?_) hgs hc fun t' cs' hc' hfl=>?_
    ·unfold Kd at hi
     rw [ht] at hi
     simp only [hk,hte] at hi
     cases hi
     rfl
    ·exact h _ (vok W (ps:= []) (v:= .agg cs') (by simp only [aH,b7,bO,ht,mM,hk,hte,hfl]) eI (by show VLe _ (V.agg (toL t' n));rw [hc'.toL];exact VLe.refl _) ⟨_,hc'⟩)
   ·cases hb
theorem SC {td te:TD} {et:TypeId} (hk:td.kind = .slice et) (hte:tb et=some te) (hty:te.ty=none) (H:aw) (m n:Nat) (parts:List (Nat×V)):c7 tb td H m n parts=if n≤1000∧te.size≤1000∧te.zero.length=te.size then
     match iw (fun i=>some (i*te.size,te.size)) (nz te.zero n) parts with
     | some cs=> .val [] (.gsl m m te.size 0 n) [(m,.grow m te.size cs)]
     | none=> .bad
    else .bad:=by
 have h1 :∀ H,cR tb td H m n parts = .bad:=fun H=>by simp only [cR,hk,hte,hty]
 have h2:ej tb td H m n parts = .bad:=by
  unfold ej
  rw [h1]
  simp only
  unfold lR
  rw [h1]
  cases Pc tb td <;> rfl
 unfold c7
 rw [h2]
 simp only [hk,hte]
 rfl
theorem Ly {t:TypeId} {n:Nat} {parts:Array (Nat×Operand)}:bj tb N K e (.buildSlice t n parts) (OZ t n parts K e tb):=by
 unfold OZ
 cases hb:OW tb t n with
 | no=>trivial
 | «at» esz z len=>
  unfold OW at hb
  split at hb
  case h_2=>cases hb
  rename_i td ht
  split at hb
  case h_2=>cases hb
  rename_i et hk
  split at hb
  case h_2=>cases hb
  rename_i te hte
  split at hb
  case isFalse=>cases hb
  rename_i hcond
  obtain ⟨h1,h2,h3,h4,h5⟩:=hcond
  cases hb
  have hty:te.ty=none:=by cases hq:te.ty with|none=>rfl|some _=>rw [hq] at h1;cases h1
  have hc:=CsR.ofL h5
  rw [CG,h4] at hc
  refine qG (S:=bj tb N K e (.buildSlice t n parts)) trivial fun gs hgs=>?_
  intro a b c d tm hp nx G k sl Wg W h0 h
  refine tj h0 Wg (f:=fun i=>some (i*te.size,te.size)) (fun i o s hi=>(by cases hi;rfl)) hgs hc fun t' cs' hc' hfl=>?_
  show G (eB nx _)
  rw [cV]
  refine tp h0 fun hm=>h _ _ ⟨⟨[],.gsl nx nx te.size 0 n,[(nx,.grow nx te.size cs')],by simp only [aH,b7,bO,ht,SC hk hte hty,h2,h3,h4,and_self,if_true,hfl],eI,VLe.refl _,gb hm ?_⟩,trivial,gd W hm ⟨_,hc'⟩⟩
  show some (Blk.grow nx te.size (toL t' _))=_
  rw [hc'.toL]
theorem Ns {G:Rv→Prop} {sl:Rv} (h0:G sl) {x:Option Operand} {dn:Nat} {ev:Operand→U} {k:Nat→Rv} (h :∀ m:Nat,bnd (dn:Int) (x.map fun x=>(ev x).toV)=some (m:Int)→G (k m)):G (OV x dn ev k sl):=by
 cases x with
 | none=>exact h dn rfl
 | some x=>
  refine ob h0 fun ik n hx=>Fv h0 fun m hn=>h m ?_
  subst hn
  simp only [Option.map_some,tvi hx,bnd]
  rfl
theorem GM {t:TypeId} {x:Operand} {lo hi mx:Option Operand}:bj tb N K e (.slice t x lo hi mx) (Dr t x lo hi mx K e tb):=by
 unfold Dr
 cases mx with
 | some _=>trivial
 | none=>
  cases hs:Q5 tb t with
  | none=>trivial
  | some esz=>
   unfold Q5 at hs
   split at hs
   case h_2=>cases hs
   rename_i td ht
   refine aX (S:=bj tb N K e (.slice t x lo hi none)) fun gx hgx=>?_
   subst hgx
   intro a b c d tm hp nx G k sl Wg W h0 h
   refine IU h0 fun q v e' o l hu=>qZ h0 fun v' e2 ct n2 hg=>b8 h0 fun h1=>b8 h0 fun h2=>b8 h0 fun h3=>Ns h0 fun i hi=>Ns h0 fun j hj=>b8 h0 fun h4=>b8 h0 fun h5=>?_
   obtain ⟨cs,hc,hH,_⟩:=gn W hg
   have e1:=aE h1
   have e3:=aE h2
   have e4:=aE h3
   have h4:j≤l:=bm h4
   have h5:i<j:=bm h5
   subst e1
   subst e3
   subst e4
   have hcond :(Nat.beq i 0||Nat.blt i j)=true:=by
    rw [Bool.or_eq_true]
    exact .inr (by rw [Nat.blt_eq];exact h5)
   refine h _ (vok W (ps:= [.sub i j l]) (v:= .gsl q v esz (o+i) (j - i)) ?_ (pC ⟨by omega,by omega,by omega⟩) (VLe.refl _) trivial)
   have hi:bnd 0 (lo.map fun x=>(rdS K e x a b c d tm).toV)=some (i:Int):=hi
   simp only [aH,b7,bO,ht,tvs hu,fq,Option.map_none,hs,hi,hj,hH,and_self,if_true,Int.toNat_natCast,hcond,cond_true]
theorem Hq {S:Stp→Prop} (h0:S .slow) {l:List Operand} {k:Operand→Stp} (h :∀ x,l=[x]→S (k x)):S (Ep l k):=by
 match l with
 | []=>exact h0
 | [x]=>exact h x rfl
 | _::_::_=>exact h0
theorem HL {S:Stp→Prop} (h0:S .slow) {l:List Operand} {k:Operand→Operand→Stp} (h :∀ x y,l=[x,y]→S (k x y)):S (Lk l k):=by
 match l with
 | []=>exact h0
 | [x]=>exact h0
 | [x,y]=>exact h x y rfl
 | _::_::_::_=>exact h0
theorem LD {q:Call} (hq:q.callee = .builtin .len):bj tb N K e (.call q) (O5 q K e tb):=by
 unfold O5
 cases hs:Ja tb q with
 | false=>trivial
 | true=>
  unfold Ja at hs
  split at hs
  case h_2=>cases hs
  rename_i t hat
  split at hs
  case h_2=>cases hs
  rename_i td ht
  obtain ⟨et,hk⟩ :∃ et,td.kind = .slice et:=by
   unfold I9 at hs
   split at hs
   ·exact ⟨_,by assumption⟩
   ·cases hs
  refine Hq (S:=bj tb N K e (.call q)) trivial fun x hx=>aX (S:=bj tb N K e (.call q)) fun gx hgx=>?_
  subst hgx
  intro a b c d tm hp nx G k sl Wg W h0 h
  refine Fw h0 (fun hu=>?_) (fun hu=>?_) fun r v e' o l hu=>qZ h0 fun v' e2 ct n2 hg=>b8 h0 fun h1=>b8 h0 fun h2=>b8 h0 fun h3=>?_
  ·exact h _ (vok W (ps:= []) (v:= .int .i64 0) (by simp only [aH,b7,bO,hq,hat,hx,ht,tvo hu,jA,wg,hk]) eI (VLe.refl _) trivial)
  ·exact h _ (vok W (ps:= []) (v:= .int .i64 0) (by simp only [aH,b7,bO,hq,hat,hx,ht,tvo hu,jA,wg,hk]) eI (VLe.refl _) trivial)
  ·obtain ⟨cs,hc,hH,_⟩:=gn W hg
   have e1:=aE h1
   have e3:=aE h2
   have h3:l≤aA:=bm h3
   subst e1
   subst e3
   exact h _ (vok W (ps:= []) (v:= .int .i64 l) (by simp only [aH,b7,bO,hq,hat,hx,ht,tvs hu,jA,hk,hH,h3,and_self,if_true]) eI (VLe.refl _) trivial)
theorem UJ {G:Rv→Prop} {sl:Rv} (h0:G sl) {hp:HP} (W:hpW hp) {esz:Nat} {u:U} {k:Nat→CT→Nat→Rv} (h :∀ cnt t xo n cs,CsR t n cs→xo+cnt*esz≤n→jB (hpH hp) esz u.toV=some (cnt,(cs.drop xo).take (cnt*esz))→G (k cnt t xo)):G (gcG hp esz u k sl):=by
 refine Fw h0 (fun hu=>?_) (fun hu=>?_) fun r v e' o l hu=>qZ h0 fun v' e2 ct n2 hg=>b8 h0 fun h1=>b8 h0 fun h2=>b8 h0 fun h3=>b8 h0 fun h4=>?_
 ·exact h 0 ct0 0 0 [] (.nil _) (by omega) (by simp [tvo hu,jB])
 ·exact h 0 ct0 0 0 [] (.nil _) (by omega) (by simp [tvo hu,jB])
 ·obtain ⟨cs,hc,hH,_⟩:=gn W hg
  have e1:=aE h1
  have e3:=aE h2
  have e4:=aE h3
  have h4 :(o+l)*esz≤n2:=bm h4
  refine h l ct (o*esz) n2 cs hc (by rw [←Nat.add_mul];exact h4) ?_
  simp only [tvs hu,jB,hH,e1,e3,e4,and_self,if_true]
theorem Lx {q:Call} (hq:q.callee = .builtin .append):bj tb N K e (.call q) (OY q K e tb):=by
 unfold OY
 cases ha:OS tb q with
 | no=>trivial
 | «at» esz bytes=>
  unfold OS at ha
  split at ha
  case h_2=>cases ha
  rename_i t t2 hat
  split at ha
  case h_2=>cases ha
  rename_i td td2 ht ht2
  split at ha
  case h_2=>cases ha
  rename_i et hk
  split at ha
  case h_2=>cases ha
  rename_i te hte
  split at ha
  case isFalse=>cases ha
  rename_i hcond
  obtain ⟨hel,hty,hb1,hb2,hz⟩:=hcond
  cases ha
  refine HL (S:=bj tb N K e (.call q)) trivial fun s x hsx=>aX (S:=bj tb N K e (.call q)) fun gs hgs=>aX (S:=bj tb N K e (.call q)) fun gx hgx=>?_
  subst hgs;subst hgx
  intro a b c d tm hp nx G k sl Wg W h0 h
  refine UJ h0 W fun cnt xt xo xn xs hxc hxo hgc=>?_
  show G (eB nx _)
  rw [cV]
  have hall :((xs.drop xo).take (cnt*te.size)).all V.one=true:=List.all_eq_true.2 fun v hv=>hxc.one v (List.mem_of_mem_drop (List.mem_of_mem_take hv))
  have main:aH ⟨tb,fun _=>none,1,N⟩ nx (hpH hp) (fun x=>(rdS K e x a b c d tm).toV) (.call q)=match dQ tb td (hpH hp) nx (rdS K e s a b c d tm).toV (rdS K e x a b c d tm).toV with | .val ps v dh=>some (ps,v,dh)|_=>none:=by
   simp only [aH,b7,bO,hq,hat,hsx,ht,ht2,OT,hel,Bool.true_or,if_true]
   rfl
  have hev :∀ r,(match cnt with
       | 0=>(match (rdS K e s a b c d tm).toV with
        | .nilsl=> .val [] .nilsl []
        | .esl=> .val [] .esl []
        | .gsl h ver esz off len=>match hpH hp h with
         | some (.grow ver' esz' _)=>if ver=ver'∧esz=esz' then .val [] (.gsl h ver esz off len) [] else .bad
         | _=> .bad
        | _=> .bad)
       | k+1=>match (rdS K e s a b c d tm).toV with
        | .nilsl=> .val [.leN ((k+1)*te.bytes) 70368744177664] (.gsl nx nx te.size 0 (k+1)) [(nx,.grow nx te.size ((xs.drop xo).take (cnt*te.size)))]
        | .esl=> .val [.leN ((k+1)*te.bytes) 70368744177664] (.gsl nx nx te.size 0 (k+1)) [(nx,.grow nx te.size ((xs.drop xo).take (cnt*te.size)))]
        | .gsl h ver esz off len=>match hpH hp h with
         | some (.grow ver' esz' cs)=>if ver=ver'∧esz=te.size∧esz'=te.size∧off=0∧len*te.size=cs.length then
           .val [.leN ((len +(k+1))*te.bytes) 70368744177664] (.gsl h nx te.size 0 (len +(k+1))) [(h,.grow nx te.size (cs ++((xs.drop xo).take (cnt*te.size))))] else .bad
         | _=> .bad
        | _=> .bad:Res)=r→dQ tb td (hpH hp) nx (rdS K e s a b c d tm).toV (rdS K e x a b c d tm).toV=r:=fun r hr=>by
   have hor:isG (rdS K e s a b c d tm).toV=true∨isG (rdS K e x a b c d tm).toV=true∨te.ty.isNone=true:= .inr (.inr hty)
   simp only [dQ,hk,hte]
   rw [if_pos hor,if_pos ⟨hb1,hb2,hz⟩,hgc]
   simp only [hall,if_true]
   exact hr
  cases cnt with
  | zero=>
   have hw:=kf Wg s
   refine Fw h0 (fun hu=>?_) (fun hu=>?_) fun r v e' o l hu=>qZ h0 fun v' e2 ct n2 hg=>b8 h0 fun h1=>b8 h0 fun h2=>?_
   ·exact h _ _ (vok W (ps:= []) (v:= .nilsl) (by rw [main,hev _ (by simp only [tvo hu];rfl)]) eI (by rw [hu];exact VLe.refl _) hw)
   ·exact h _ _ (vok W (ps:= []) (v:= .esl) (by rw [main,hev _ (by simp only [tvo hu];rfl)]) eI (by rw [hu];exact VLe.refl _) hw)
   ·obtain ⟨cs,hc,hH,_⟩:=gn W hg
    have e1:=aE h1
    have e3:=aE h2
    subst e1
    subst e3
    exact h _ _ (vok W (ps:= []) (v:= .gsl r v e' o l) (by rw [main,hev (.val [] (.gsl r v e' o l) []) (by simp only [tvs hu,hH,and_self,if_true])]) eI (by rw [hu];exact VLe.refl _) hw)
  | succ cnt=>
   have hnew :(rdS K e s a b c d tm).toV = .nilsl∨(rdS K e s a b c d tm).toV = .esl→G (HZ te.size te.bytes hp nx (Nat.succ cnt) xt xo k sl):=fun hs=>by
    refine b8 h0 fun h1=>b8 h0 fun h2=>tp h0 fun hm=>?_
    have h1 :(cnt+1)*te.bytes≤70368744177664:=bm h1
    have hc:=hxc.sub hxo
    refine h _ _ ⟨⟨[.leN ((cnt+1)*te.bytes) 70368744177664],.gsl nx nx te.size 0 (cnt+1),[(nx,.grow nx te.size ((xs.drop xo).take ((cnt+1)*te.size)))],?_,pC h1,VLe.refl _,gb hm ?_⟩,trivial,gd W hm ⟨_,hc⟩⟩
    ·rw [main]
     rcases hs with hs|hs
     ·rw [hev _ (by simp only [hs];rfl)]
     ·rw [hev _ (by simp only [hs];rfl)]
    ·show some (Blk.grow nx te.size (toL (p7 ct0 0 xt xo ((cnt+1)*te.size)) ((cnt+1)*te.size)))=_
     rw [hc.toL]
   refine Fw h0 (fun hu=>hnew (.inl (by rw [hu];rfl))) (fun hu=>hnew (.inr (by rw [hu];rfl))) fun r v e' o l hu=>qZ h0 fun v' e2 ct n2 hg=>b8 h0 fun h1=>b8 h0 fun h2=>b8 h0 fun h3=>b8 h0 fun h4=>b8 h0 fun h5=>b8 h0 fun h6=>b8 h0 fun h7=>?_
   obtain ⟨cs,hc,hH,hm⟩:=gn W hg
   have e1:=aE h1
   have e3:=aE h2
   have e4:=aE h3
   have e5:=aE h4
   have e6:l*te.size=n2:=aE h5
   have h6 :(l +(cnt+1))*te.bytes≤70368744177664:=bm h6
   have h7:n2 +(cnt+1)*te.size≤4096:=bm h7
   subst e1
   subst e3
   subst e5
   have e4:e2=te.size:=e4
   have hl:=hc.len
   have hap:=hc.app hxc hxo h7
   refine h _ _ ⟨⟨[.leN ((l +(cnt+1))*te.bytes) 70368744177664],.gsl r nx te.size 0 (l +(cnt+1)),[(r,.grow nx te.size (cs ++(xs.drop xo).take ((cnt+1)*te.size)))],?_,pC h6,VLe.refl _,gb hm ?_⟩,trivial,gd W hm ⟨_,hap⟩⟩
   ·rw [main,hev _ (by simp only [tvs hu,hH,e4,e6,hl,and_self,if_true];rfl)]
   ·show some (Blk.grow nx te.size (toL (p7 ct n2 xt xo ((cnt+1)*te.size)) (n2 +(cnt+1)*te.size)))=_
    rw [hap.toL]
theorem A0 (a b c d:U) (tm:TM) (cs:List V) :∀ l:List Operand,H4 (l.map (rdS K e)) a b c d tm cs =(l.map fun x=>rdS K e x a b c d tm)++cs.map ku
 | []=>rfl
 | x::l=>by
  show rdS K e x a b c d tm::H4 (l.map (rdS K e)) a b c d tm cs=_
  rw [A0 a b c d tm cs l]
  rfl
theorem Ib {q:Call}:bj tb N K e (.call q) (Ia q K e tb):=by
 unfold Ia
 cases hq:q.callee with
 | value f=>
  refine aX (S:=bj tb N K e (.call q)) fun gf hgf=>Cm (S:=bj tb N K e (.call q)) fun gs hgs=>?_
  subst hgf;subst hgs
  intro a b c d tm G k sl Wg h0 h
  refine SL h0 fun g cs hf=>b8 h0 fun hpl=>?_
  rw [A0]
  refine h g _ ⟨⟨q,f,cs,rfl,hq,by show (rdS K e f a b c d tm).toV=_;rw [hf];rfl,hpl,fun E l hl=>?_⟩,fun u hu=>?_⟩
  ·rw [List.map_append,List.map_map,List.map_map]
   have :∀ (xs:List V) (l:List Value),ab E (xs++cs) l→ab E (xs++cs.map (U.toV ∘ ku)) l:=by
    intro xs
    induction xs with
    | nil=>intro l hl;exact pR (fun v=>v) _ lq cs l (by simpa using hl)
    | cons x xs ih=>
     intro l hl
     cases l with
     | nil=>simp [ab] at hl
     | cons y l=>simp only [List.cons_append,ab] at hl ⊢;exact ⟨hl.1,ih l hl.2⟩
   exact this _ l hl
  ·rcases List.mem_append.1 hu with h1|h1
   ·obtain ⟨x,_,rfl⟩:=List.mem_map.1 h1
    exact kf Wg x
   ·obtain ⟨v,_,rfl⟩:=List.mem_map.1 h1
    exact lr v
 | builtin b=>
  show bj tb N K e (.call q) (Sq b q K e tb)
  cases b with
  | append=>exact Lx hq
  | len=>exact LD hq
  | _=>exact trivial
 | _=>exact trivial
theorem O9 (op:Op):bj tb N K e op (cmp K e tb op):=by
 cases op with
 | move x=>exact cMove_ok.1
 | assign x=>exact cMove_ok.2
 | pick=>exact Ih
 | alloc=>exact GI
 | box=>exact LA
 | build=>exact GJ
 | buildSlice=>exact Ly
 | load=>exact Ig
 | store=>exact GN
 | nilCheck=>exact LF
 | binOp=>exact Lz
 | unOp=>exact O7
 | convert=>exact Ie
 | makeFunc=>exact O6
 | slice=>exact GM
 | fieldAddr=>exact O1
 | field=>exact O2
 | indexAddr=>exact O3
 | index=>exact LC
 | extract=>exact LB
 | call=>exact Ib
 | _=>exact trivial
end
section
open Go.RowKit
variable {P:Program} {tb:Tbl} {N K:Nat}
structure TmW (K:Nat) (e:En) (a b c d:U) (tm:TM):Prop where
 win :∀ i,(dt K e i a b c d tm).wf
 tm :∀ i,isK K i=true→((cC i).get tm).wf
structure TmR (K:Nat) (e:En) (a b c d:U) (tm:TM) (E:Env) (act:Act):Prop where
 win :∀ i,aa E (dt K e i a b c d tm).toV (act.tmps.getD i undef)
 tm :∀ i,isK K i=true→aa E ((cC i).get tm).toV (act.tmps.getD i undef)
structure RV (B:Base) (E0:Env) (n0 N K:Nat) (e:En) (a b c d:U) (tm:TM) (hp:HP) (nx:Nat) (E:Env) (act:Act):Prop where
 rel:HRel B E
 ext:Ext E0 E
 h:E.H=hpH hp
 u :∀ n,E.U n→E0.U n∨(n0≤n∧n<nx)
 le:n0≤nx
 tm:TmR K e a b c d tm E act
 size:act.tmps.size=N
 defers:act.defers=[]
abbrev WT (K:Nat) (tm:TM):Prop:=TmW K en0 u0 u0 u0 u0 tm
abbrev RX (B:Base) (E0:Env) (n0 N K:Nat) (tm:TM) (hp:HP) (nx:Nat) (E:Env) (act:Act):Prop:=RV B E0 n0 N K en0 u0 u0 u0 u0 tm hp nx E act
theorem tw {K i:Nat} (h:isK K i=true):i<512:=by
 unfold isK at h
 cases hb:Nat.ble (Nat.succ i) 512 with
 | true=>exact bm hb
 | false=>rw [hb] at h;cases h
theorem iC (i:Nat) (tm:TM):dt K en0 i u0 u0 u0 u0 tm=bif isK K i then (cC i).get tm else u0:=by
 unfold dt
 have:Nat.beq en0.e0 (Nat.succ i)=false:=rfl
 cases hk:isK K i <;> rfl
theorem kK {p:U→Prop} {e:En} {i dd:Nat} {u a b c d:U} {tm tm':TM} (h0:p u0) (hu:i=dd→p u) (hw:i≠dd→p (dt K e i a b c d tm)) (ht:i≠dd→isK K i=true→p ((cC i).get tm')):p (dt K ⟨Nat.succ dd,e.e0,e.e1,e.e2⟩ i u a b c tm'):=by
 by_cases e1:i=dd
 ·have:dt K ⟨Nat.succ dd,e.e0,e.e1,e.e2⟩ i u a b c tm'=u:=by
   unfold dt
   have:Nat.beq (Nat.succ dd) (Nat.succ i)=true:=by rw [e1];exact Nat.beq_refl _
   simp only [this]
  rw [this]
  exact hu e1
 ·have hw:=hw e1
  have ht:=ht e1
  unfold dt at hw ⊢
  have hb:Nat.beq (Nat.succ dd) (Nat.succ i)=false:=by
   cases hb:Nat.beq (Nat.succ dd) (Nat.succ i) with
   | false=>rfl
   | true=>exact absurd (Nat.succ.inj (aE hb)).symm e1
  simp only [hb]
  cases h1:Nat.beq e.e0 (Nat.succ i)
  case true=>rw [h1] at hw;exact hw
  rw [h1] at hw
  cases h2:Nat.beq e.e1 (Nat.succ i)
  case true=>rw [h2] at hw;exact hw
  rw [h2] at hw
  cases h3:Nat.beq e.e2 (Nat.succ i)
  case true=>rw [h3] at hw;exact hw
  cases h4:isK K i
  case true=>exact ht h4
  exact h0
theorem yg:u0.wf:=trivial
theorem oD {E:Env} {v:Value}:aa E u0.toV v:=by simp [u0,U.toV,aa]
theorem jI {K i j:Nat} (hi:isK K i=true) (hj:isK K j=true) (h:i≠j) (u:U) (tm:TM) :(cC j).get ((cC i).put u tm) =(cC j).get tm:=E6 (tw hi) (tw hj) h u tm
theorem jC {a:Act} {dd:Nat} (h:dd<a.tmps.size) (v:Value) :(a.put (some dd) v).tmps.getD dd undef=v:=by
 simp [Act.put,Array.getD_eq_getD_getElem?,h]
theorem eQ {a:Act} {dd i:Nat} (h:i≠dd) (v:Value) :(a.put (some dd) v).tmps.getD i undef=a.tmps.getD i undef:=by
 simp [Act.put,Array.getD_eq_getD_getElem?,Array.getElem?_setIfInBounds_ne (Ne.symm h)]
theorem Lh {e:En} {dd:Nat} {u a b c d:U} {tm:TM} (h:TmW K e a b c d tm) (hu:u.wf):TmW K ⟨Nat.succ dd,e.e0,e.e1,e.e2⟩ u a b c tm:=
 ⟨fun i=>kK (p:=U.wf) (d:=d) (tm:=tm) yg (fun _=>hu) (fun _=>h.win i) (fun _ hk=>h.tm i hk),h.tm⟩
theorem Li {e:En} {dd:Nat} (hd:isK K dd=true) {u a b c d:U} {tm:TM} (h:TmW K e a b c d tm) (hu:u.wf):TmW K ⟨Nat.succ dd,e.e0,e.e1,e.e2⟩ u a b c ((cC dd).put u tm):=by
 refine ⟨fun i=>kK (p:=U.wf) (d:=d) (tm:=tm) yg (fun _=>hu) (fun _=>h.win i) (fun hne hk=>?_),fun i hk=>?_⟩
 ·rw [jI hd hk (Ne.symm hne)];exact h.tm i hk
 ·by_cases e1:dd=i
  ·subst e1;rw [hJ];exact hu
  ·rw [jI hd hk e1];exact h.tm i hk
theorem AJ {e:En} {a b c d:U} {tm:TM} {E E':Env} {act:Act} (X:Ext E E') (h:TmR K e a b c d tm E act):TmR K e a b c d tm E' act:=
 ⟨fun i=>bb X _ _ (h.win i),fun i hk=>bb X _ _ (h.tm i hk)⟩
theorem Lg {e:En} {a b c d:U} {tm:TM} {E:Env} {act:Act} {v:Value} (h:TmR K e a b c d tm E act):TmR K e a b c d tm E (act.put none v):=h
theorem Ld {e:En} {dd:Nat} (hk0:isK K dd=false) {u a b c d:U} {tm:TM} {E:Env} {act:Act} (hd:dd<act.tmps.size) {v:Value} (h:TmR K e a b c d tm E act) (hu:aa E u.toV v):TmR K ⟨Nat.succ dd,e.e0,e.e1,e.e2⟩ u a b c tm E (act.put (some dd) v):=by
 refine ⟨fun i=>kK (p:=fun u=>aa E u.toV ((act.put (some dd) v).tmps.getD i undef)) (d:=d) (tm:=tm) oD (fun e1=>?_) (fun hne=>?_) (fun hne hk=>?_),fun i hk=>?_⟩
 ·rw [e1,jC hd];exact hu
 ·rw [eQ hne];exact h.win i
 ·rw [eQ hne];exact h.tm i hk
 ·have hne:i≠dd:=fun e1=>by rw [e1,hk0] at hk;cases hk
  rw [eQ hne];exact h.tm i hk
theorem Le {e:En} {dd:Nat} (hk0:isK K dd=true) {u a b c d:U} {tm:TM} {E:Env} {act:Act} (hd:dd<act.tmps.size) {v:Value} (h:TmR K e a b c d tm E act) (hu:aa E u.toV v):TmR K ⟨Nat.succ dd,e.e0,e.e1,e.e2⟩ u a b c ((cC dd).put u tm) E (act.put (some dd) v):=by
 refine ⟨fun i=>kK (p:=fun u=>aa E u.toV ((act.put (some dd) v).tmps.getD i undef)) (d:=d) (tm:=tm) oD (fun e1=>?_) (fun hne=>?_) (fun hne hk=>?_),fun i hk=>?_⟩
 ·rw [e1,jC hd];exact hu
 ·rw [eQ hne];exact h.win i
 ·rw [eQ hne,jI hk0 hk (Ne.symm hne)];exact h.tm i hk
 ·by_cases e1:dd=i
  ·subst e1;rw [hJ,jC hd];exact hu
  ·rw [eQ (Ne.symm e1),jI hk0 hk e1];exact h.tm i hk
theorem EH {e:En} {a b c d:U} {tm:TM} {E:Env} {act:Act} (h:TmR K e a b c d tm E act) (x:Operand):aa E (rdS K e x a b c d tm).toV (act.eval x):=by
 cases x with
 | tmp i=>exact h.win i
 | const v=>exact lq _ _ _ (gl v)
 | func f=>simp only [rdS,U.toV,aa,Act.eval];exact ⟨#[],rfl,by simp [ab]⟩
 | global i=>exact oD
theorem TmW.out {e:En} {a b c d:U} {tm:TM} (h:TmW K e a b c d tm):WT K tm:=by
 refine ⟨fun i=>?_,h.tm⟩
 rw [iC]
 cases hk:isK K i with
 | true=>exact h.tm i hk
 | false=>exact yg
theorem TmR.out {e:En} {a b c d:U} {tm:TM} {E:Env} {act:Act} (h:TmR K e a b c d tm E act):TmR K en0 u0 u0 u0 u0 tm E act:=by
 refine ⟨fun i=>?_,h.tm⟩
 rw [iC]
 cases hk:isK K i with
 | true=>exact h.tm i hk
 | false=>exact oD
theorem RV.out {B:Base} {E0:Env} {n0:Nat} {e:En} {a b c d:U} {tm:TM} {hp:HP} {nx:Nat} {E:Env} {act:Act} (h:RV B E0 n0 N K e a b c d tm hp nx E act):RX B E0 n0 N K tm hp nx E act:=
 ⟨h.rel,h.ext,h.h,h.u,h.le,h.tm.out,h.size,h.defers⟩
def yn (P:Program) (g:FuncId) (args:List U) (u:U):Prop:=∀ (E:Env) (av:List Value),ab E (args.map U.toV) av→∃ v',aa E u.toV v'∧
 ∀ (o:Oper) (c:Call) (f:Operand) (l:Array Value) (a:Act) (next:Act→World→Prop) (Q:Exit→Act→World→Prop),o.op = .call c→c.callee = .value f→a.eval f = .func (.func g) #[] l→av=c.args.toList.map a.eval++l.toList→
  next (a.put o.dst v') E.w→o.wp P a E.w next Q
structure FnV (P:Program) (g:FuncId) (args:List U) (hp:HP) (nx:Nat) (u:U) (hp':HP) (nx':Nat):Prop where
 fn :∃ fn,P.funcs[g]?=some fn∧fn.body.isSome=true∧(fn.name == "runtime.NumGoroutine")=false
 le:nx≤nx'
 wf:u.wf
 hw:hpW hp'
 calls :∀ (B:Base) (E:Env) (av:List Value),HRel B E→E.H=hpH hp→ab E (args.map U.toV) av→(∀ n,nx≤n→n<nx'→¬ E.U n)→
  Calls P g av.toArray E.w fun e w'=>∃ E' v',e = .returned v'∧Came B E (hpH hp') nx nx' u.toV v' w' E'
structure CallVOK (P:Program) (call:eK):Prop where
 ok :∀ g args hp nx u hp' nx',(∀ x∈args,x.wf)→hpW hp→call g args hp nx = .ok u hp' nx'→FnV P g args hp nx u hp' nx'
 ex :∀ g args hp nx u hp' nx',(∀ x∈args,x.wf)→call g args hp nx = .ex u hp' nx'→hp'=hp∧nx'=nx∧u.wf∧yn P g args u
theorem Nd (v:V):VLe v (jH v):=fun _ _ h=>lp h
theorem Dd {E:Env} :∀ {cs:List V} {l:List Value},ab E cs l→ab E (cs.map jH) l
 | [],[],_=>by simp [ab]
 | [],_::_,h=>by simp [ab] at h
 | _::_,[],h=>by simp [ab] at h
 | _::_,_::_,h=>by simp only [List.map_cons,ab] at h ⊢;exact ⟨lp h.1,Dd h.2⟩
theorem AY (cs:List V):VLe (.agg cs) (.agg (cs.map jH)):=fun _ _ h=>by
 simp only [aa] at h ⊢
 obtain ⟨l,h1,h2⟩:=h
 exact ⟨l,h1,Dd h2⟩
theorem DW (v:V):VLe v (kbV v):=by
 cases v with
 | agg cs=>exact AY cs
 | tup vs=>
  intro E x h
  simp only [kbV,aa] at h ⊢
  obtain ⟨l,h1,h2⟩:=h
  refine ⟨l,h1,?_⟩
  revert h2
  generalize l.toList=us
  induction vs generalizing us with
  | nil=>exact id
  | cons v vs ih=>
   cases us with
   | nil=>intro h;simp [ab] at h
   | cons u us=>
    intro h
    simp only [List.map_cons,ab] at h ⊢
    refine ⟨?_,ih us h.2⟩
    have h:=h.1
    cases v <;> first|exact AY _ _ _ h|exact lp h
 | _=>exact Nd _
abbrev Wp:=(Exit→Act→World→Prop)→Act→World→Prop
structure EndsV (N K:Nat) (e:En) (a b c d:U) (tm:TM) (hp:HP) (nx:Nat) (l:Lf) (tm':TM) (hp':HP) (nx':Nat) (W:Wp):Prop where
 l:l = .nrm
 le:nx≤nx'
 wt:WT K tm'
 hw:hpW hp'
 wp :∀ (B:Base) (E0:Env) (n0:Nat) (Q:Exit→Act→World→Prop) (E:Env) (act:Act),(∀ n,n0≤n→n<nx'→¬ E0.U n)→(∀ E act,RX B E0 n0 N K tm' hp' nx' E act→Q .normal act E.w)→RV B E0 n0 N K e a b c d tm hp nx E act→W Q act E.w
def qO (N K:Nat) (call:eK) (X:Cds) (e:En) (W:Wp):Prop:=∀ (a b c d:U) (tm:TM) (hp:HP) (nx:Nat) (l:Lf) (tm':TM) (hp':HP) (nx':Nat),TmW K e a b c d tm→hpW hp→X.run a b c d call tm hp nx = .go l tm' hp' nx'→EndsV N K e a b c d tm hp nx l tm' hp' nx' W
structure PostV (N K:Nat) (e:En) (a b c d:U) (tm:TM) (dst:Option Nat) (u:U) (hp1:HP) (nx1:Nat) (l:Lf) (tm':TM) (hp':HP) (nx':Nat) (W:Wp):Prop where
 l:l = .nrm
 le:nx1≤nx'
 wt:WT K tm'
 hw:hpW hp'
 wp :∀ (B:Base) (E0:Env) (n0:Nat) (Q:Exit→Act→World→Prop) (E:Env) (act:Act) (hp:HP) (nx:Nat) (E':Env) (v':Value),(∀ n,n0≤n→n<nx'→¬ E0.U n)→(∀ E act,RX B E0 n0 N K tm' hp' nx' E act→Q .normal act E.w)→RV B E0 n0 N K e a b c d tm hp nx E act→
  nx≤nx1→HRel B E'→Ext E E'→E'.H=hpH hp1→(∀ n,E'.U n→E.U n∨(nx≤n∧n<nx1))→aa E' u.toV v'→W Q (act.put dst v') E'.w
theorem ng {call:eK} {nxt:Cds} {e:En} {dst:Option Nat} {W:Wp} (hn:qO N K call nxt (enS e dst) W) (hd:dstIn N dst=true) {a b c d:U} {tm:TM} {u:U} {hp1:HP} {nx1:Nat} {l:Lf} {tm':TM} {hp':HP} {nx':Nat} (Wt:TmW K e a b c d tm) (hu:u.wf) (Wh:hpW hp1)
  (h:ka (dkS K dst) nxt u a b c d call tm hp1 nx1 = .go l tm' hp' nx'):PostV N K e a b c d tm dst u hp1 nx1 l tm' hp' nx' W:=by
 have mk :∀ {B:Base} {E0:Env} {n0:Nat} {E:Env} {act:Act} {hp:HP} {nx:Nat} {E':Env} {v':Value} {e2:En} {a2 b2 c2 d2:U} {tm2:TM},RV B E0 n0 N K e a b c d tm hp nx E act→nx≤nx1→HRel B E'→Ext E E'→E'.H=hpH hp1→(∀ n,E'.U n→E.U n∨(nx≤n∧n<nx1))→
   TmR K e2 a2 b2 c2 d2 tm2 E' (act.put dst v')→RV B E0 n0 N K e2 a2 b2 c2 d2 tm2 hp1 nx1 E' (act.put dst v'):=fun {B E0 n0 E act hp nx E' v' e2 a2 b2 c2 d2 tm2} hR hle hE hX hH hU hT=>by
  have hle0:=hR.le
  refine ⟨hE,hR.ext.trans hX,hH,fun n hn=>?_,Nat.le_trans hle0 hle,hT,by rw [mr];exact hR.size,by rw [iP];exact hR.defers⟩
  rcases hU n hn with h|h
  ·rcases hR.u n h with h|h
   ·exact .inl h
   ·exact .inr ⟨h.1,by have:=h.2;omega⟩
  ·exact .inr ⟨by omega,h.2⟩
 cases dst with
 | none=>
  have:=hn a b c d tm hp1 nx1 l tm' hp' nx' Wt Wh h
  exact ⟨this.l,this.le,this.wt,this.hw,fun B E0 n0 Q E act hp nx E' v' hfr hQ hR hle hE hX hH hU hv=>this.wp B E0 n0 Q E' _ hfr hQ (mk hR hle hE hX hH hU (Lg (AJ hX hR.tm)))⟩
 | some dd=>
  have hdn:dd<N:=by have h:Nat.blt dd N=true:=hd;rw [Nat.blt_eq] at h;exact h
  cases hk:isK K dd with
  | false=>
   have h1:Cds.run nxt u a b c call tm hp1 nx1 = .go l tm' hp' nx':=by
    have:dkS K (some dd) = .drop:=by show Bool.rec (motive:=fun _=>DK) _ _ (isK K dd)=_;rw [hk]
    rw [this] at h
    exact h
   have:=hn u a b c tm hp1 nx1 l tm' hp' nx' (Lh Wt hu) Wh h1
   exact ⟨this.l,this.le,this.wt,this.hw,fun B E0 n0 Q E act hp nx E' v' hfr hQ hR hle hE hX hH hU hv=>this.wp B E0 n0 Q E' _ hfr hQ (mk hR hle hE hX hH hU (Ld hk (by rw [hR.size];exact hdn) (AJ hX hR.tm) hv))⟩
  | true=>
   have h1:Cds.run nxt u a b c call ((cC dd).put u tm) hp1 nx1 = .go l tm' hp' nx':=by
    have:dkS K (some dd) = .keep (cC dd).put:=by show Bool.rec (motive:=fun _=>DK) _ _ (isK K dd)=_;rw [hk]
    rw [this] at h
    exact h
   have:=hn u a b c ((cC dd).put u tm) hp1 nx1 l tm' hp' nx' (Li hk Wt hu) Wh h1
   exact ⟨this.l,this.le,this.wt,this.hw,fun B E0 n0 Q E act hp nx E' v' hfr hQ hR hle hE hX hH hU hv=>this.wp B E0 n0 Q E' _ hfr hQ (mk hR hle hE hX hH hU (Le hk (by rw [hR.size];exact hdn) (AJ hX hR.tm) hv))⟩
theorem lh :∀ {dh:List (Nat×Blk)} {hp hp':HP},hpW hp→uE dh hp=some hp'→hpH hp'=au (hpH hp) dh∧hpW hp'
 | [],hp,hp',W,h=>by cases h;exact ⟨rfl,W⟩
 |(q,b)::r,hp,hp',W,h=>by
  unfold uE at h
  split at h
  case h_2=>cases h
  rename_i hp1 h1
  obtain ⟨e1,W1⟩:=lh W h1
  cases hq:Nat.ble (Nat.succ q) Md with
  | false=>rw [hq] at h;cases h
  | true=>
   have hq:q<262144:=bm hq
   have key :∀ (b':Bk) (b:Blk),b'.toB=some b→b'.wf→hpH (dq hp1 q b')=au (hpH hp) ((q,b)::r)∧hpW (dq hp1 q b'):=fun b' b hb hw=>by
    refine ⟨?_,gd W1 hq hw⟩
    rw [gb hq hb,e1]
    funext k
    simp only [au,find]
    cases Nat.beq q k <;> rfl
   rw [‹Nat.ble (Nat.succ q) Md=true›] at h
   simp only [cond_true] at h
   split at h
   ·rename_i cs
    cases ho:gr cs with
    | false=>rw [ho] at h;cases h
    | true=>
     rw [ho] at h
     cases h
     have hc:=CsR.ofL ho
     exact key _ _ (by show some (Blk.cells (toL _ _))=_;rw [hc.toL]) ⟨_,hc⟩
   ·rename_i v e cs
    cases ho:gr cs with
    | false=>rw [ho] at h;cases h
    | true=>
     rw [ho] at h
     cases h
     have hc:=CsR.ofL ho
     exact key _ _ (by show some (Blk.grow _ _ (toL _ _))=_;rw [hc.toL]) ⟨_,hc⟩
   ·cases h
    exact key _ _ rfl trivial
   ·cases h
   ·cases h
section
variable {call:eK} {all:List Oper}
abbrev opW (P:Program) (o:Oper) (W:Wp):Wp:=fun Q act w=>o.wp P act w (fun act w=>W Q act w) Q
theorem u9 (hT:a6 P tb) {o:Oper} {e:En} {a b c d:U} {tm:TM} {hp:HP} {nx:Nat} {u:U} {hp1:HP} {l:Lf} {tm':TM} {hp':HP} {nx':Nat} {W:Wp} (hv:ValOK tb N (fun x=>(rdS K e x a b c d tm).toV) o.op hp nx u hp1)
  (hq:PostV N K e a b c d tm o.dst u hp1 (Nat.succ nx) l tm' hp' nx' W):EndsV N K e a b c d tm hp nx l tm' hp' nx' (opW P o W):=by
 obtain ⟨ps,v,dh,h1,h2,h3,h4⟩:=hv.ex
 have hle:=hq.le
 refine ⟨hq.l,by omega,hq.wt,hq.hw,fun B E0 n0 Q E act hfr hQ hR=>?_⟩
 have hle0:=hR.le
 have hH:=hR.h
 rw [←hH] at h1
 refine dB (C:=⟨tb,fun _=>none,1,N⟩) hR.rel hT (Nat.le_refl _) (fun _ _ h=>by cases h) (fun n k1 k2 hu=>?_) (EH hR.tm) h1 h2 (fun v' E' G hv'=>?_)
 ·have k2:n<nx+1:=k2
  rcases hR.u n hu with h|h
  ·exact hfr n (by omega) (by omega) h
  ·have:=h.2;omega
 ·exact hq.wp B E0 n0 Q E act _ nx E' v' hfr hQ hR (Nat.le_succ nx) G.rel G.ext (by rw [G.h,hH,h4]) (fun n hn=>by
   rcases G.u n hn with h|h
   ·exact .inl h
   ·exact .inr h) (h3 E' v' hv')
theorem HC (hT:a6 P tb) {o:Oper} {e:En} {nxt:Cds} {W:Wp} (hn:qO N K call nxt (enS e o.dst) W) (hd:dstIn N o.dst=true):qO N K call ⟨pN tb N K e o.op (dkS K o.dst) nxt⟩ e (opW P o W):=by
 intro a b c d tm hp nx l tm' hp' nx' Wt Wh h
 have h:eB nx (fun nx=>match sM tb N nx (hpH hp) (fun x=>(rdS K e x a b c d tm).toV) o.op with
 | some (ps,v,dh)=>match NB ps with
  | true=>match uE dh hp with
   | some hp=>ka (dkS K o.dst) nxt (ku (kbV v)) a b c d call tm hp (Nat.succ nx)
   | none=> .no [104]
  | false=> .no [100]
 | none=> .no [101]) = .go l tm' hp' nx':=by
  simp only [pN,N9,cV] at h ⊢
  exact h
 rw [cV] at h
 split at h
 case h_2=>cases h
 rename_i ps v dh hev
 split at h
 case h_2=>cases h
 rename_i hobs
 split at h
 case h_2=>cases h
 rename_i hp1 hs
 obtain ⟨e1,W1⟩:=lh Wh hs
 have hps :∀ p∈ps,p.holds:=fun p hp=>by
  cases ps with
  | nil=>cases hp
  | cons q qs=>
   have :(q::qs).all Ob.chk=true:=hobs
   exact Ob.chk_holds (List.all_eq_true.1 this p hp)
 exact u9 hT ⟨⟨ps,v,dh,qd _ _ _ _ _ _ hev,hps,(DW v).trans (lq _),e1⟩,lr _,W1⟩ (ng hn hd Wt (lr _) W1 h)
theorem K3 (hT:a6 P tb) (hcall:CallVOK P call) {o:Oper} {e:En} {nxt:Cds} {W:Wp} (hn:qO N K call nxt (enS e o.dst) W) (hd:dstIn N o.dst=true):qO N K call (AG tb N K e o.op (dkS K o.dst) nxt (cmp K e tb o.op)) e (opW P o W):=by
 have hst:=O9 (tb:=tb) (N:=N) (K:=K) (e:=e) o.op
 have hsl:=HC (P:=P) (call:=call) (e:=e) hT hn hd
 generalize cmp K e tb o.op=s at hst
 cases s with
 | slow=>exact hsl
 | val f=>
  intro a b c d tm hp nx l tm' hp' nx' Wt Wh h
  have h:f a b c d tm hp nx (fun u=>ka (dkS K o.dst) nxt u a b c d call tm hp (Nat.succ nx)) (pN tb N K e o.op (dkS K o.dst) nxt a b c d call tm hp nx) = .go l tm' hp' nx':=by
   unfold AG at h
   cases hdk:dkS K o.dst <;>(rw [hdk] at h;exact h)
  revert h
  refine hst a b c d tm hp nx (fun r=>r = .go l tm' hp' nx'→EndsV N K e a b c d tm hp nx l tm' hp' nx' (opW P o W)) _ _ Wt.win Wh (hsl a b c d tm hp nx l tm' hp' nx' Wt Wh) (fun u hv h=>?_)
  exact u9 hT hv (ng hn hd Wt hv.wf hv.hw h)
 | mem f=>
  intro a b c d tm hp nx l tm' hp' nx' Wt Wh h
  revert h
  refine hst a b c d tm hp nx (fun r=>r = .go l tm' hp' nx'→EndsV N K e a b c d tm hp nx l tm' hp' nx' (opW P o W)) _ _ Wt.win Wh (hsl a b c d tm hp nx l tm' hp' nx' Wt Wh) (fun u hp1 hv h=>?_)
  exact u9 hT hv (ng hn hd Wt hv.wf hv.hw h)
 | cal f=>
  intro a b c d tm hp nx l tm' hp' nx' Wt Wh h
  revert h
  refine hst a b c d tm (fun r=>r = .go l tm' hp' nx'→EndsV N K e a b c d tm hp nx l tm' hp' nx' (opW P o W)) _ _ Wt.win (hsl a b c d tm hp nx l tm' hp' nx' Wt Wh) (fun g args hv h=>?_)
  obtain ⟨q,f,caps,ho,hf,hg,hpl,hargs⟩:=hv.ex
  have av :∀ {E:Env} {act:Act},TmR K e a b c d tm E act→∃ l:Array Value,act.eval f = .func (.func g) #[] l∧ab E (args.map U.toV) (q.args.toList.map act.eval++l.toList):=fun {E act} hR=>by
   have hfv:=EH hR f
   rw [hg] at hfv
   simp only [aa] at hfv
   obtain ⟨l,hfe,hl⟩:=hfv
   rw [Kf hpl hl] at hfe
   exact ⟨l,hfe,hargs E _ (bk (fj _ _ (EH hR) _) hl)⟩
  cases hc:call g args hp nx with
  | no w=>rw [hc] at h;cases h
  | ok u hp1 nx1=>
   rw [hc] at h
   have F:=hcall.ok g args hp nx u hp1 nx1 hv.wf Wh hc
   have hp2:=ng hn hd Wt F.wf F.hw (show ka (dkS K o.dst) nxt u a b c d call tm hp1 nx1 = .go l tm' hp' nx' from h)
   have hle1:=F.le
   have hle2:=hp2.le
   refine ⟨hp2.l,by omega,hp2.wt,hp2.hw,fun B E0 n0 Q E act hfr hQ hR=>?_⟩
   obtain ⟨l,hfe,hav⟩:=av hR.tm
   have hle0:=hR.le
   refine LG ho hf hfe F.fn (F.calls B E _ hR.rel hR.h hav (fun n h3 h4 hu=>?_)) (fun e w' hh=>?_)
   ·rcases hR.u n hu with h|h
    ·exact hfr n (by omega) (by omega) h
    ·have:=h.2;omega
   ·obtain ⟨E',v',rfl,C⟩:=hh
    refine ⟨v',rfl,?_⟩
    have:=hp2.wp B E0 n0 Q E act hp nx E' v' hfr hQ hR (by omega) C.rel C.ext C.h (fun n hn=>by
     rcases C.u n hn with h|h
     ·exact .inl h
     ·exact .inr ⟨h.1,by have:=h.2;omega⟩) C.v
    rw [C.w] at this
    exact this
  | ex u hp1 nx1=>
   rw [hc] at h
   obtain ⟨rfl,rfl,hu,hx⟩:=hcall.ex g args hp nx u hp1 nx1 hv.wf hc
   have hp2:=ng hn hd Wt hu Wh (show ka (dkS K o.dst) nxt u a b c d call tm hp1 nx1 = .go l tm' hp' nx' from h)
   have hle2:=hp2.le
   refine ⟨hp2.l,by omega,hp2.wt,hp2.hw,fun B E0 n0 Q E act hfr hQ hR=>?_⟩
   obtain ⟨l,hfe,hav⟩:=av hR.tm
   obtain ⟨v',hv',hcan⟩:=hx E _ hav
   exact hcan o q f l act _ Q ho hf hfe rfl (hp2.wp B E0 n0 Q E act hp1 nx1 E v' hfr hQ hR (Nat.le_refl _) hR.rel (Ext.refl E) hR.h (fun n hn=> .inl hn) hv')
theorem IZ {e:En} {i:Nat} {k:Gt→Cds}:IY K e i k=k (dt K e i):=by
 unfold IY dt
 cases Nat.beq e.e0 (Nat.succ i)
 case true=>rfl
 cases Nat.beq e.e1 (Nat.succ i)
 case true=>rfl
 cases Nat.beq e.e2 (Nat.succ i)
 case true=>rfl
 cases Nat.beq e.e3 (Nat.succ i)
 case true=>rfl
 cases isK K i
 case true=>rfl
 rfl
theorem SM {e:En} {a b c d:U} {tm:TM} {E:Env} {act:Act} (hR:TmR K e a b c d tm E act) {o:Oper} {q:Nat×Bool} (hg:o.guard=some q) {dj:Nat} (hj:IQ all q.1=some dj) {r:Bool} (h :(match (dt K e dj a b c d tm).toV with | .kb b=>some (b==q.2) | .tup []=>some false|_=>none:Option Bool)=some r):Region.wanted o (yielded all.toArray act.tmps)=r:=by
 refine mc (E:=E) (T:=fun s=>(dt K e s a b c d tm).toV) hR.win ?_
 unfold IQ at hj
 obtain ⟨j,want⟩:=q
 rw [hg]
 simp only at hj ⊢
 cases hx:all[j]? with
 | none=>rw [hx] at hj;cases hj
 | some oj=>
  rw [hx] at hj
  simp only at hj ⊢
  rw [hj]
  exact h
theorem J6 (hT:a6 P tb) (hcall:CallVOK P call) {o:Oper} {rest:List Oper} {e:En} {nxt:Cds} (hn:qO N K call nxt (enS e o.dst) (fun Q act w=>wpList P all.toArray Q rest act w)) (hd:dstIn N o.dst=true):qO N K call (QB tb N K all e o (dkS K o.dst) nxt) e (fun Q act w=>wpList P all.toArray Q (o::rest) act w):=by
 have hst:=K3 (P:=P) (e:=e) hT hcall hn hd
 unfold QB
 cases hg:o.guard with
 | none=>
  intro a b c d tm hp nx l tm' hp' nx' Wt Wh h
  have:=hst a b c d tm hp nx l tm' hp' nx' Wt Wh h
  refine ⟨this.l,this.le,this.wt,this.hw,fun B E0 n0 Q E act hfr hQ hR=>?_⟩
  unfold wpList
  have hw:Region.wanted o (yielded all.toArray act.tmps)=true:=by unfold Region.wanted;rw [hg]
  rw [hw]
  simp only [if_true]
  exact .inl (this.wp B E0 n0 Q E act hfr hQ hR)
 | some q=>
  intro a b c d tm hp nx l tm' hp' nx' Wt Wh h
  have h:Cds.run (Option.rec (motive:=fun _=>Cds) So (fun dj=>gdC K e dj q.2 (dkS K o.dst) nxt (AG tb N K e o.op (dkS K o.dst) nxt (cmp K e tb o.op))) (IQ all q.1)) a b c d call tm hp nx = .go l tm' hp' nx':=h
  cases hj:IQ all q.1 with
  | none=>
   rw [hj] at h
   cases h
  | some dj=>
   rw [hj] at h
   have run :(∀ {E:Env} {act:Act},TmR K e a b c d tm E act→Region.wanted o (yielded all.toArray act.tmps)=true)→Cds.run (AG tb N K e o.op (dkS K o.dst) nxt (cmp K e tb o.op)) a b c d call tm hp nx = .go l tm' hp' nx'→EndsV N K e a b c d tm hp nx l tm' hp' nx' (fun Q act w=>wpList P all.toArray Q (o::rest) act w):=fun hw h=>by
    have:=hst a b c d tm hp nx l tm' hp' nx' Wt Wh h
    refine ⟨this.l,this.le,this.wt,this.hw,fun B E0 n0 Q E act hfr hQ hR=>?_⟩
    unfold wpList
    rw [hw hR.tm]
    simp only [if_true]
    exact .inl (this.wp B E0 n0 Q E act hfr hQ hR)
   have skip :(∀ {E:Env} {act:Act},TmR K e a b c d tm E act→Region.wanted o (yielded all.toArray act.tmps)=false)→ka (dkS K o.dst) nxt (.tup []) a b c d call tm hp nx = .go l tm' hp' nx'→EndsV N K e a b c d tm hp nx l tm' hp' nx' (fun Q act w=>wpList P all.toArray Q (o::rest) act w):=fun hw h=>by
    have:=ng hn hd Wt (show (U.tup []).wf from fun w hw=>by cases hw) Wh h
    refine ⟨this.l,this.le,this.wt,this.hw,fun B E0 n0 Q E act hfr hQ hR=>?_⟩
    unfold wpList
    rw [hw hR.tm]
    simp only [Bool.false_eq_true,if_false]
    exact this.wp B E0 n0 Q E act hp nx E undef hfr hQ hR (Nat.le_refl _) hR.rel (Ext.refl E) hR.h (fun n hn=> .inl hn) (by simp [U.toV,aa,undef,ab])
   have h:Cds.run (gdC K e dj q.2 (dkS K o.dst) nxt (AG tb N K e o.op (dkS K o.dst) nxt (cmp K e tb o.op))) a b c d call tm hp nx = .go l tm' hp' nx':=h
   unfold gdC at h
   rw [IZ] at h
   have gw :∀ r:Bool,(match (dt K e dj a b c d tm).toV with | .kb b=>some (b==q.2) | .tup []=>some false|_=>none:Option Bool)=some r→∀ {E:Env} {act:Act},TmR K e a b c d tm E act→Region.wanted o (yielded all.toArray act.tmps)=r:=fun r h {E act} hR=>SM hR hg hj h
   cases hq:q.2 with
   | true=>
    rw [hq] at h gw
    have h:Ua (dt K e dj a b c d tm) (Cds.run (AG tb N K e o.op (dkS K o.dst) nxt (cmp K e tb o.op)) a b c d call tm hp nx) (ka (dkS K o.dst) nxt (.tup []) a b c d call tm hp nx) (.no [105]) = .go l tm' hp' nx':=h
    cases hu:dt K e dj a b c d tm with
    | kb p=>
     rw [hu] at h gw
     cases p with
     | true=>exact run (gw true rfl) h
     | false=>exact skip (gw false rfl) h
    | tup ws=>
     rw [hu] at h gw
     cases ws with
     | nil=>exact skip (gw false rfl) h
     | cons _ _=>cases h
    | _=>rw [hu] at h;cases h
   | false=>
    rw [hq] at h gw
    have h:T9 (dt K e dj a b c d tm) (Cds.run (AG tb N K e o.op (dkS K o.dst) nxt (cmp K e tb o.op)) a b c d call tm hp nx) (ka (dkS K o.dst) nxt (.tup []) a b c d call tm hp nx) (.no [105]) = .go l tm' hp' nx':=h
    cases hu:dt K e dj a b c d tm with
    | kb p=>
     rw [hu] at h gw
     cases p with
     | true=>exact skip (gw false rfl) h
     | false=>exact run (gw true rfl) h
    | tup ws=>
     rw [hu] at h gw
     cases ws with
     | nil=>exact skip (gw false rfl) h
     | cons _ _=>cases h
    | _=>rw [hu] at h;cases h
theorem Co (hT:a6 P tb) (hcall:CallVOK P call) :∀ (rest:List Oper) (e:En),(∀ o∈rest,dstIn N o.dst=true)→qO N K call (Tg tb N K all rest e) e (fun Q act w=>wpList P all.toArray Q rest act w)
 | [],e,_=>by
  intro a b c d tm hp nx l tm' hp' nx' Wt Wh h
  have h:Rv.go .nrm tm hp nx = .go l tm' hp' nx':=h
  cases h
  exact ⟨rfl,Nat.le_refl _,Wt.out,Wh,fun B E0 n0 Q E act hfr hQ hR=>wpList_nil (hQ E act hR.out)⟩
 | o::rest,e,hd=>J6 hT hcall (Co hT hcall rest (enS e o.dst) (fun o ho=>hd o (List.mem_cons_of_mem _ ho))) (hd o List.mem_cons_self)
end
end
section
open Go.RowKit
variable {P:Program} {tb:Tbl} {N K:Nat}
theorem oa :∀ (l:List Nat) (k:List Nat→Rv),jg l k=k l
 | [],_=>rfl
 | n::r,k=>by simp only [jg,cV,oa r]
noncomputable def tmL (K:Nat) (tm:TM):Nat→List (Nat×V)
 | 0=> []
 | n+1=>bif isK K n then (n,((cC n).get tm).toV)::tmL K tm n else tmL K tm n
theorem tg (tm:TM) (s:Nat) :∀ n,find (tmL K tm n) s=if s<n∧isK K s=true then some ((cC s).get tm).toV else none
 | 0=>by rw [if_neg (by omega)];rfl
 | n+1=>by
  simp only [tmL]
  cases hk:isK K n with
  | false=>
   rw [cond_false,tg tm s n]
   by_cases h:s<n∧isK K s=true
   ·rw [if_pos h,if_pos ⟨by omega,h.2⟩]
   ·rw [if_neg h,if_neg (fun e=>by
     by_cases e1:s=n
     ·rw [e1,hk] at e;cases e.2
     ·exact h ⟨by omega,e.2⟩)]
  | true=>
   simp only [cond_true,find]
   cases hb:Nat.beq n s with
   | true=>
    have e1:=aE hb
    subst e1
    rw [cond_true,if_pos ⟨by omega,hk⟩]
   | false=>
    have hne:n≠s:=fun e=>by subst e;rw [Nat.beq_refl] at hb;cases hb
    rw [cond_false,tg tm s n]
    by_cases h:s<n∧isK K s=true
    ·rw [if_pos h,if_pos ⟨by omega,h.2⟩]
    ·rw [if_neg h,if_neg (fun e=>h ⟨by omega,e.2⟩)]
def FL (K:Nat) (tm:TM) (L:List (Nat×V)):Prop:=∀ s,find L s=if isK K s=true then some ((cC s).get tm).toV else none
theorem yq (tm:TM):FL K tm (tmL K tm 512):=fun s=>by
 rw [tg]
 by_cases h:isK K s=true
 ·rw [if_pos ⟨tw h,h⟩,if_pos h]
 ·rw [if_neg (fun e=>h e.2),if_neg h]
theorem FL.look {tm:TM} {L:List (Nat×V)} (h:FL K tm L) (s:Nat):cA L s=xr K tm s:=by
 unfold cA xr
 rw [h s,iC]
 by_cases hk:isK K s=true
 ·rw [if_pos hk,hk];rfl
 ·have:isK K s=false:=by simpa using hk
  rw [if_neg hk,this]
  rfl
theorem kq (tm:TM) (i:Nat) (u:U):uU tm i u =(cC i).put u tm:=rfl
theorem FL.put {tm:TM} {L:List (Nat×V)} (h:FL K tm L) {d:Option Nat} (hd:Bc N K d=true) {u:U} {v:V} (hv:u.toV=v):FL K (mq d u tm) (cc d v++L):=by
 cases d with
 | none=>exact h
 | some dd=>
  have hk:isK K dd=true:=by
   unfold Bc at hd
   rw [Bool.and_eq_true] at hd
   exact hd.2
  intro s
  simp only [cc,List.singleton_append,find,mq,kq]
  cases hb:Nat.beq dd s with
  | true=>
   have e1:=aE hb
   subst e1
   rw [cond_true,if_pos hk,hJ,hv]
  | false=>
   have hne:dd≠s:=fun e=>by subst e;rw [Nat.beq_refl] at hb;cases hb
   rw [cond_false,h s]
   by_cases hs:isK K s=true
   ·rw [if_pos hs,if_pos hs,jI hk hs hne]
   ·rw [if_neg hs,if_neg hs]
def KW (K:Nat) (tm:TM):Prop:=∀ i,isK K i=true→((cC i).get tm).wf
theorem KW.put {tm:TM} (h:KW K tm) {d:Option Nat} (hd:Bc N K d=true) {u:U} (hu:u.wf):KW K (mq d u tm):=by
 cases d with
 | none=>exact h
 | some dd=>
  have hk:isK K dd=true:=by
   unfold Bc at hd
   rw [Bool.and_eq_true] at hd
   exact hd.2
  intro i hi
  show ((cC i).get (uU tm dd u)).wf
  rw [kq]
  by_cases e1:dd=i
  ·subst e1;rw [hJ];exact hu
  ·rw [jI hk hi e1];exact h i hi
theorem KW.wt {tm:TM} (h:KW K tm):WT K tm:=by
 refine ⟨fun i=>?_,h⟩
 rw [iC]
 cases hk:isK K i with
 | true=>exact h i hk
 | false=>exact yg
theorem LJ {d:Option Nat} (h:Bc N K d=true):dstIn N d=true:=by
 cases d with
 | none=>rfl
 | some dd=>
  unfold Bc at h
  rw [Bool.and_eq_true] at h
  exact h.1
theorem jU {all:List Oper} {L:List (Nat×V)} {tm:TM} (h :∀ s,cA L s=xr K tm s) (o:Oper):fw all L o=DP K all tm o:=by
 unfold fw DP
 cases o.guard with
 | none=>rfl
 | some q=>
  simp only
  cases all[q.1]? with
  | none=>rfl
  | some oj=>
   simp only
   cases oj.dst with
   | none=>rfl
   | some dj=>simp only;rw [h];rfl
theorem Js {rs:List Nat} {L:List (Nat×V)} {tm:TM} (h :∀ s,cA L s=xr K tm s):a8 rs L=eZ K rs tm:=by
 funext x
 cases x <;> simp only [a8,eZ]
 rw [h]
theorem Ln {v:V} {w:W} (h:wEx v=some w):w.toV=v∧w.wf:=by
 cases v with
 | agg cs=>
  have h :(Bool.rec (motive:=fun _=>Option W) none (some (.agg (ofL cs) cs.length)) (gr cs):Option W)=some w:=h
  cases ho:gr cs with
  | false=>rw [ho] at h;cases h
  | true=>
   rw [ho] at h
   cases h
   have hc:=CsR.ofL ho
   exact ⟨by show V.agg (toL _ _)=_;rw [hc.toL],⟨_,hc⟩⟩
 | tup vs=>cases h
 | _=>cases h;exact ⟨rfl,trivial⟩
theorem yj :∀ {vs:List V} {l:List W},Lo vs=some l→l.map W.toV=vs∧∀ w∈l,w.wf
 | [],l,h=>by cases h;exact ⟨rfl,fun w hw=>by cases hw⟩
 | v::vs,l,h=>by
  simp only [Lo] at h
  split at h
  case h_2=>cases h
  rename_i w hw
  split at h
  case h_2=>cases h
  rename_i l' hl
  cases h
  obtain ⟨h1,h2⟩:=Ln hw
  obtain ⟨h3,h4⟩:=yj hl
  refine ⟨by rw [List.map_cons,h1,h3],fun x hx=>?_⟩
  rcases List.mem_cons.1 hx with rfl|hx
  ·exact h2
  ·exact h4 x hx
theorem uW {v:V} {u:U} (h:uEx v=some u):u.toV=jH v∧u.wf:=by
 cases v with
 | agg cs=>
  have h :(Bool.rec (motive:=fun _=>Option U) none (some (.agg (ofL cs) cs.length)) (gr cs):Option U)=some u:=h
  cases ho:gr cs with
  | false=>rw [ho] at h;cases h
  | true=>
   rw [ho] at h
   cases h
   have hc:=CsR.ofL ho
   exact ⟨by show V.agg (toL _ _)=_;rw [hc.toL];rfl,⟨_,hc⟩⟩
 | tup vs=>
  have h :(match Lo vs with|some l=>some (U.tup l)|none=>none:Option U)=some u:=h
  split at h
  case h_2=>cases h
  rename_i l hl
  cases h
  obtain ⟨h1,h2⟩:=yj hl
  exact ⟨by show V.tup (l.map W.toV)=_;rw [h1];rfl,h2⟩
 | _=>cases h;exact ⟨rfl,trivial⟩
theorem GD {hp:HP} {h:Nat} (hl :¬ h<262144) (b:Bk):dq hp h b=hp:=by rw [nW,E7 hl]
theorem uf {hp:HP} (j:Nat) :∀ (R:List Nat) (t:HP),bd (ue hp R t) j=if j∈R then bd hp j else bd t j
 | [],t=>by simp [ue]
 | h::R,t=>by
  simp only [ue]
  rw [uf j R]
  by_cases e:j∈R
  ·simp [e]
  ·rw [if_neg e]
   by_cases e2:j=h
   ·subst e2
    rw [if_pos List.mem_cons_self]
    by_cases hl:j<262144
    ·rw [sx hl]
    ·rw [pW hl,pW hl]
   ·rw [if_neg (by simp [e,e2])]
    by_cases hl:h<262144
    ·rw [Dm hl (Ne.symm e2)]
    ·rw [GD hl]
theorem My {hp:HP} (R:List Nat):hpH (ue hp R hp0)=restr (hpH hp) R:=by
 funext j
 unfold hpH restr
 rw [uf,zu]
 cases hm:memN R j with
 | true=>rw [if_pos (memN_iff.1 hm)];rfl
 | false=>rw [if_neg (fun e=>by rw [memN_iff.2 e] at hm;cases hm)];rfl
theorem Mz {hp:HP} (W:hpW hp) (R:List Nat):hpW (ue hp R hp0):=fun j=>by
 rw [uf,zu]
 split
 ·exact W j
 ·trivial
theorem xy {hp':HP} (W':hpW hp') :∀ {keys:List Nat} {hp hp2:HP} {dh:List (Nat×Blk)},hpW hp→Hg hp' keys hp=some (hp2,dh)→hpH hp2=au (hpH hp) dh∧hpW hp2∧∀ h b,find dh h=some b→hpH hp' h=some b
 | [],hp,hp2,dh,W,h=>by cases h;exact ⟨rfl,W,fun h b hb=>by cases hb⟩
 | q::r,hp,hp2,dh,W,h=>by
  unfold Hg at h
  split at h
  case h_2=>cases h
  rename_i b hb
  split at h
  case h_2=>cases h
  rename_i hp1 dh1 h1
  cases h
  obtain ⟨e1,W1,e2⟩:=xy W' W h1
  have hq:q<262144:=Dk (fun e=>by rw [e] at hb;cases hb)
  refine ⟨?_,gd W1 hq (W' q),fun j b' hj=>?_⟩
  ·rw [gb hq hb,e1]
   funext k
   simp only [au,find]
   cases Nat.beq q k <;> rfl
  ·simp only [find] at hj
   cases hx:Nat.beq q j with
   | true=>
    rw [hx,cond_true] at hj
    cases hj
    rw [←aE hx]
    exact hb
   | false=>rw [hx] at hj;exact e2 j b' hj
theorem xx {hp':HP} :∀ {keys:List Nat} {hp hp2:HP} {dh:List (Nat×Blk)},Hg hp' keys hp=some (hp2,dh)→dh.map (·.1)=keys
 | [],hp,hp2,dh,h=>by cases h;rfl
 | q::r,hp,hp2,dh,h=>by
  unfold Hg at h
  split at h
  case h_2=>cases h
  split at h
  case h_2=>cases h
  rename_i h1
  cases h
  rw [List.map_cons,xx h1]
theorem Pp (c:C) (r:List Nat):Po c r=c.toV.hs++r:=by cases c <;> rfl
theorem DU (t:CT) :∀ n i,hsT t n i=hss (uV t n i)
 | 0,_=>rfl
 | n+1,i=>by
  show Po (cb t i) (hsT t n (i+1))=_
  rw [Pp,DU t n (i+1)]
  rfl
theorem rY {b:Bk} {B:Blk} (h:b.toB=some B):zw b=B.hs:=by
 cases b with
 | none=>cases h
 | cells t n=>cases h;exact DU t n 0
 | grow v e t n=>cases h;exact DU t n 0
 | mp es=>cases h;rfl
theorem He {b:Bk} (h:b.toB=none):zw b=[]:=by cases b <;> first|rfl|cases h
theorem xS (hp:HP) :∀ n new acc,qK hp n new acc=nI (hpH hp) n new acc
 | 0,_,_=>rfl
 | n+1,new,acc=>by
  simp only [qK,nI]
  have :(fun h=>zw (bd hp h))=fun h=>(match hpH hp h with|some b=>b.hs|none=> []:List Nat):=by
   funext h
   unfold hpH
   cases hb :(bd hp h).toB with
   | none=>exact He hb
   | some B=>exact rY hb
  rw [this]
  generalize new.filter (fun h=>!memN acc h)=add
  cases add with
  | nil=>rfl
  | cons a l=>exact xS hp n _ _
theorem Hc (hp:HP) (R:List Nat) (m K:Nat) (v:V) (dh:List (Nat×Blk)):zo hp R m K v dh=gW (hpH hp) R m K v dh:=by
 unfold zo gW
 have :(fun h=>bif S3 (bd hp h) then nt R m K (zw (bd hp h)) else false)=fun h=>(match hpH hp h with|some b=>nt R m K b.hs|none=>false:Bool):=by
  funext h
  unfold hpH
  cases hb:bd hp h with
  | none=>rfl
  | cells t n=>show nt R m K (zw (.cells t n))=_;rw [rY (B:= .cells (toL t n)) rfl];rfl
  | grow v e t n=>show nt R m K (zw (.grow v e t n))=_;rw [rY (B:= .grow v e (toL t n)) rfl];rfl
  | mp es=>show nt R m K (zw (.mp es))=_;rw [rY (B:= .mp es) rfl];rfl
 rw [this]
 rfl
theorem Pg {a b:Int} (h:eqS a b=true):a=b:=by
 rw [DC] at h
 simpa using h
theorem jJ {p q:Bool} (h :(Bool.rec (motive:=fun _=>Bool) false q p:Bool)=true):p=true∧q=true:=by
 cases p <;> cases q <;> first|exact ⟨rfl,rfl⟩|cases h
theorem Pe {c d:C} (h:eqC c d=true):c.toV=d.toV:=by
 cases c <;> cases d <;> first|cases h|skip
 ·obtain ⟨h1,h2⟩:=jJ h
  rw [FB h1,Pg h2]
 ·rename_i b b'
  cases b <;> cases b' <;> first|rfl|cases h
 ·obtain ⟨h1,h2⟩:=jJ h
  rw [aE h1,aE h2]
 ·obtain ⟨h1,h2⟩:=jJ h
  obtain ⟨h2,h3⟩:=jJ h2
  rw [aE h1,aE h2,aE h3]
 ·obtain ⟨h1,h2⟩:=jJ h
  obtain ⟨h2,h3⟩:=jJ h2
  obtain ⟨h3,h4⟩:=jJ h3
  obtain ⟨h4,h5⟩:=jJ h4
  rw [aE h1,aE h2,aE h3,aE h4,aE h5]
 ·exact V.eqb_eq _ _ h
theorem DD {t t':CT} :∀ n i,eqT t t' n i=true→uV t n i=uV t' n i
 | 0,_,_=>rfl
 | n+1,i,h=>by
  obtain ⟨hc,h⟩:=jJ (show (Bool.rec (motive:=fun _=>Bool) false (eqT t t' n (i+1)) (eqC (cb t i) (cb t' i)):Bool)=true from h)
  simp only [uV]
  rw [Pe hc,DD n (i+1) h]
theorem LN {b d:Bk} (h:G6 b d=true):b.toB=d.toB:=by
 cases b <;> cases d <;> first|cases h|skip
 ·rfl
 ·obtain ⟨h1,h2⟩:=jJ h
  have e:=aE h1
  subst e
  show some (Blk.cells (toL _ _))=some (Blk.cells (toL _ _))
  unfold toL
  rw [DD _ _ h2]
 ·obtain ⟨h1,k1⟩:=jJ h
  obtain ⟨h2,k2⟩:=jJ k1
  obtain ⟨h3,h4⟩:=jJ k2
  have e1:=aE h1
  have e2:=aE h2
  have e3:=aE h3
  subst e1
  subst e2
  subst e3
  show some (Blk.grow _ _ (toL _ _))=some (Blk.grow _ _ (toL _ _))
  unfold toL
  rw [DD _ _ h4]
 ·show some (Blk.mp _)=some (Blk.mp _)
  rw [Fp _ _ h]
theorem yS {call:eK} (hcall:CallVOK P call) {g:FuncId} {args:List U} {hp:HP} (W:hpW hp) (Wa :∀ x∈args,x.wf) {R:List Nat} {m:Nat} {k:U→HP→List (Nat×Blk)→Nat→Rv} {l:Lf} {tm':TM} {hp':HP} {nx':Nat} (h:Dx call g args hp R m k = .go l tm' hp' nx') :
  ∃ u hp2 dh nx,k u hp2 dh nx = .go l tm' hp' nx'∧u.wf∧hpW hp2∧hpH hp2=au (hpH hp) dh∧(∃ fn,P.funcs[g]?=some fn∧fn.body.isSome=true∧(fn.name == "runtime.NumGoroutine")=false)∧m≤nx∧
   ∀ (B:Base) (E:Env) (av:List Value),HRel B E→E.H=restr (hpH hp) R→ab E (args.map U.toV) av→(∀ n,m≤n→n<nx→¬ E.U n)→
    Calls P g av.toArray E.w fun e w'=>∃ E' v',e = .returned v'∧GoodK B E m (nx+1 - m) dh w' E'∧aa E' u.toV v':=by
 unfold Dx at h
 split at h
 case h_2=>cases h
 case h_3=>cases h
 rename_i u hp1 nx1 hc
 simp only [oa] at h
 generalize hkeys :(qK hp1 64 (u.toV.hs++R.filter fun h=>!G6 (bd hp h) (bd hp1 h)) []).filter (fun h=>!(memN R h&&!memN (R.filter fun h=>!G6 (bd hp h) (bd hp1 h)) h))=keys at h
 cases hall :(R.filter fun h=>!G6 (bd hp h) (bd hp1 h)).all (fun h=>memN keys h) with
 | false=>rw [hall] at h;cases h
 | true=>
  rw [hall] at h
  simp only [cond_true] at h
  split at h
  case h_2=>cases h
  rename_i hp2 dh hm
  have F:=hcall.ok g args _ m u hp1 nx1 Wa (Mz W R) hc
  obtain ⟨e1,W2,e2⟩:=xy F.hw W hm
  refine ⟨u,hp2,dh,nx1,h,F.wf,W2,e1,F.fn,F.le,fun B E av hE hH hav hfr=>?_⟩
  refine (F.calls B E av hE (by rw [hH,My]) hav hfr).mono fun e w' hh=>?_
  obtain ⟨E',v',rfl,C⟩:=hh
  obtain ⟨R1,X1⟩:=C.rel.weak (au E.H dh) (fun j k' hk=>by
   refine ⟨k',?_,.inl rfl⟩
   rw [C.h]
   unfold au at hk
   cases hf:find dh j with
   | some b=>rw [hf] at hk;simp only [Option.some.injEq] at hk;subst hk;exact e2 j b hf
   | none=>
    rw [hf] at hk
    simp only at hk
    rw [hH] at hk
    unfold restr at hk
    cases hm1:memN R j with
    | false=>rw [hm1] at hk;cases hk
    | true=>
     rw [hm1] at hk
     simp only [cond_true] at hk
     cases he:G6 (bd hp j) (bd hp1 j) with
     | false=>
      have h5:=List.all_eq_true.1 hall j (List.mem_filter.2 ⟨memN_iff.1 hm1,by rw [he];rfl⟩)
      rw [←xx hm] at h5
      exact absurd hf (zg h5)
     | true=>
      have h5:hpH hp j=hpH hp1 j:=LN he
      rw [←h5];exact hk)
  exact ⟨_,v',rfl,⟨R1,C.ext.trans X1,C.w,rfl,fun n hn=>by
   rcases C.u n hn with h|h
   ·exact .inl h
   ·exact .inr ⟨h.1,by have:=h.2;omega⟩⟩,bb X1 _ _ C.v⟩
theorem qa {ms:List Nat} {i:Nat} {r:Rec} :∀ {ss:List Rec} {j:Nat},IA ms i r j ss=true→∀ k s,ss[k]?=some s→Hs ms i (j+k)=true∨Iz r s=true
 | [],j,_,k,s,h=>by simp at h
 | s0::ss,j,h,k,s,hs=>by
  simp only [IA,Bool.and_eq_true,Bool.or_eq_true] at h
  cases k with
  | zero=>simp only [List.getElem?_cons_zero,Option.some.injEq] at hs;subst hs;exact h.1
  | succ k=>
   have:=qa h.2 k s (by simpa using hs)
   rwa [show j+1+k=j +(k+1) by omega] at this
theorem p9 {ms:List Nat} {recs:List Rec} :∀ {rs:List Rec} {i:Nat},G4 ms recs i rs=true→∀ k r,rs[k]?=some r→r.dh=[]∨IA ms (i+k) r 0 recs=true
 | [],i,_,k,r,h=>by simp at h
 | r0::rs,i,h,k,r,hr=>by
  simp only [G4,Bool.and_eq_true] at h
  cases k with
  | zero=>
   simp only [List.getElem?_cons_zero,Option.some.injEq] at hr
   subst hr
   cases hd:r0.dh with
   | nil=>exact .inl rfl
   | cons q l=>have h1:=h.1;rw [hd] at h1;exact .inr h1
  | succ k=>
   have:=p9 h.2 k r (by simpa using hr)
   rwa [show i+1+k=i +(k+1) by omega] at this
theorem uM {ms:List Nat} {all:List Oper} {i:Nat} {o:Oper} :∀ {os:List Oper} {j:Nat},Gl ms all i o j os=true→∀ k o',os[k]?=some o'→((ms[j+k]?).getD 0).testBit i=true∨Gk all o o'=true
 | [],j,_,k,s,h=>by simp at h
 | s0::ss,j,h,k,s,hs=>by
  simp only [Gl,Bool.and_eq_true,Bool.or_eq_true] at h
  cases k with
  | zero=>simp only [List.getElem?_cons_zero,Option.some.injEq] at hs;subst hs;exact h.1
  | succ k=>
   have:=uM h.2 k s (by simpa using hs)
   rwa [show j+1+k=j +(k+1) by omega] at this
theorem uL {ms:List Nat} {all:List Oper} :∀ {os:List Oper} {i:Nat},Gi ms all i os=true→∀ k l o o',os[k]?=some o→os[k+1+l]?=some o'→((ms[i +(k+1+l)]?).getD 0).testBit (i+k)=true∨Gk all o o'=true
 | [],i,_,k,l,o,o',h,_=>by simp at h
 | o0::os,i,h,k,l,o,o',ho,ho'=>by
  simp only [Gi,Bool.and_eq_true] at h
  cases k with
  | zero=>
   simp only [List.getElem?_cons_zero,Option.some.injEq] at ho
   subst ho
   have:=uM h.1 l o' (by rw [show 0+1+l=l+1 by omega] at ho';simpa using ho')
   rwa [show i+1+l=i +(0+1+l) by omega] at this
  | succ k=>
   have:=uL h.2 k l o o' (by simpa using ho) (by rw [show k+1+1+l =(k+1+l)+1 by omega] at ho';simpa using ho')
   rwa [show i+1 +(k+1+l)=i +(k+1+1+l) by omega,show i+1+k=i +(k+1) by omega] at this
theorem xO {ms:List Nat} {i:Nat} {r:Rec} :∀ {ss:List Rec} {j:Nat},(∀ k s,ss[k]?=some s→((ms[j+k]?).getD 0).testBit i=true∨comm r s=true)→qE ms i r j ss=true
 | [],j,_=>rfl
 | s0::ss,j,h=>by
  simp only [qE,Bool.and_eq_true,Bool.or_eq_true]
  refine ⟨h 0 s0 (by simp),xO fun k s hs=>?_⟩
  have:=h (k+1) s (by simpa using hs)
  rwa [show j +(k+1)=j+1+k by omega] at this
theorem wa {ms:List Nat} :∀ {rs:List Rec} {i:Nat},(∀ k l r s,rs[k]?=some r→rs[k+1+l]?=some s→((ms[i +(k+1+l)]?).getD 0).testBit (i+k)=true∨comm r s=true)→dX ms i rs=true
 | [],i,_=>rfl
 | r0::rs,i,h=>by
  simp only [dX,Bool.and_eq_true]
  refine ⟨xO fun k s hs=>?_,wa fun k l r s hr hs=>?_⟩
  ·have:=h 0 k r0 s (by simp) (by rw [show 0+1+k=k+1 by omega];simpa using hs)
   rwa [show i +(0+1+k)=i+1+k by omega] at this
  ·have:=h (k+1) l r s (by simpa using hr) (by rw [show k+1+1+l =(k+1+l)+1 by omega];simpa using hs)
   rwa [show i +(k+1+1+l)=i+1 +(k+1+l) by omega,show i +(k+1)=i+1+k by omega] at this
theorem O8 {all:List Oper} {recs:List Rec} (hlen:recs.length=all.length) (hrec :∀ (i:Nat) (o:Oper) (r:Rec),all[i]?=some o→recs[i]?=some r→r.dst=o.dst∧r.rs=ao all o) (hs:Gj all=true) (hd:G4 (bK all []) recs 0 recs=true):cF 0 all=true∧dX (bK all []) 0 recs=true:=by
 unfold Gj at hs
 rw [Bool.and_eq_true] at hs
 refine ⟨hs.1,wa fun k l r s hr hs'=>?_⟩
 have hkl:k+1+l<recs.length:=(List.getElem?_eq_some_iff.1 hs').1
 obtain ⟨o,ho⟩ :∃ o,all[k]?=some o:=⟨all[k]'(by omega),List.getElem?_eq_getElem (by omega)⟩
 obtain ⟨o',ho'⟩ :∃ o',all[k+1+l]?=some o':=⟨all[k+1+l]'(by omega),List.getElem?_eq_getElem (by omega)⟩
 have e1:=hrec _ _ _ ho hr
 have e2:=hrec _ _ _ ho' hs'
 rcases uL hs.2 k l o o' ho ho' with h|h
 ·exact .inl h
 rw [Nat.zero_add,Nat.zero_add]
 have hne:Nat.beq k (k+1+l)=false:=by
  cases hb:Nat.beq k (k+1+l) with
  | false=>rfl
  | true=>have:=aE hb;omega
 have hne':Nat.beq (k+1+l) k=false:=by
  cases hb:Nat.beq (k+1+l) k with
  | false=>rfl
  | true=>have:=aE hb;omega
 have hlt:Nat.blt k (k+1+l)=true:=by rw [Nat.blt_eq];omega
 have hlt':Nat.blt (k+1+l) k=false:=by
  cases hb:Nat.blt (k+1+l) k with
  | false=>rfl
  | true=>rw [Nat.blt_eq] at hb;omega
 have o1:Hs (bK all []) k (k+1+l) =(((bK all [])[k+1+l]?).getD 0).testBit k:=by
  unfold Hs;rw [hne,hlt];rfl
 have o2:Hs (bK all []) (k+1+l) k =(((bK all [])[k+1+l]?).getD 0).testBit k:=by
  unfold Hs;rw [hne',hlt'];rfl
 cases hbit :(((bK all [])[k+1+l]?).getD 0).testBit k with
 | true=>exact .inl rfl
 | false=>
  refine .inr ?_
  have d1:r.dh=[]∨Iz r s=true:=by
   rcases p9 hd k r hr with h1|h1
   ·exact .inl h1
   ·rcases qa h1 (k+1+l) s hs' with h2|h2
    ·rw [Nat.zero_add,Nat.zero_add,o1,hbit] at h2;cases h2
    ·exact .inr h2
  have d2:s.dh=[]∨Iz s r=true:=by
   rcases p9 hd (k+1+l) s hs' with h1|h1
   ·exact .inl h1
   ·rcases qa h1 k r hr with h2|h2
    ·rw [Nat.zero_add,Nat.zero_add,o2,hbit] at h2;cases h2
    ·exact .inr h2
  unfold Gk at h
  unfold comm
  rw [e1.1,e1.2,e2.1,e2.2]
  simp only [Bool.and_eq_true] at h ⊢
  refine ⟨h,?_⟩
  unfold Iz at d1 d2
  simp only [Bool.and_eq_true] at d1 d2
  refine ⟨⟨?_,?_⟩,?_⟩
  ·rcases d1 with h1|h1
   ·rw [h1];rfl
   ·exact h1.1
  ·rcases d1 with h1|h1
   ·rw [h1];rfl
   ·exact h1.2
  ·rcases d2 with h1|h1
   ·rw [h1];rfl
   ·exact h1.2
theorem vQ {ms:List Nat} {i h0:Nat} {okB:Blk→Bool} :∀ {ss:List Rec} {j:Nat},HY ms i h0 okB j ss=true→∀ k s b,ss[k]?=some s→find s.dh h0=some b→j+k≠i→
  (j+k<i→((ms[i]?).getD 0).testBit (j+k)=true)∧(i<j+k→((ms[j+k]?).getD 0).testBit i=true∨okB b=true)
 | [],j,_,k,s,b,h,_,_=>by simp at h
 | s0::ss,j,h,k,s,b,hs,hb,hne=>by
  simp only [HY,Bool.and_eq_true] at h
  cases k with
  | zero=>
   simp only [List.getElem?_cons_zero,Option.some.injEq] at hs
   subst hs
   have h1:=h.1
   rw [hb] at h1
   simp only [Bool.or_eq_true,Nat.add_zero] at h1 hne ⊢
   rcases h1 with h1|h1
   ·exact absurd (aE h1).symm hne
   ·refine ⟨fun hlt=>?_,fun hgt=>?_⟩
    ·rw [show Nat.blt j i=true by rw [Nat.blt_eq];exact hlt] at h1
     exact h1
    ·rw [show Nat.blt j i=false by cases hx:Nat.blt j i with|false=>rfl|true=>rw [Nat.blt_eq] at hx;omega] at h1
     simpa using h1
  | succ k=>
   have:=vQ h.2 k s b (by simpa using hs) hb (by omega)
   rwa [show j+1+k=j +(k+1) by omega] at this
theorem vP {ms:List Nat} {recs:List Rec} :∀ {asz:List Alt} {i:Nat},yu ms recs i asz=true→∀ k h0 okB,asz[k]?=some (some (h0,okB))→HY ms (i+k) h0 okB 0 recs=true
 | [],i,_,k,h0,okB,h=>by simp at h
 | a0::asz,i,h,k,h0,okB,ha=>by
  cases k with
  | zero=>
   simp only [List.getElem?_cons_zero,Option.some.injEq] at ha
   subst ha
   simp only [yu,Bool.and_eq_true] at h
   exact h.1
  | succ k=>
   have h2:yu ms recs (i+1) asz=true:=by
    cases a0 with
    | none=>exact h
    | some q=>obtain ⟨a,b⟩:=q;simp only [yu,Bool.and_eq_true] at h;exact h.2
   have:=vP h2 k h0 okB (by simpa using ha)
   rwa [show i+1+k=i +(k+1) by omega] at this
theorem OR {ms:List Nat} {recs:List Rec} {asz:List Alt} (h:yu ms recs 0 asz=true):AltOK (fun n=>(asz[n]?).getD none) ms recs:=fun i h0 okB ha j s b hs hb hne=>by
 have ha:asz[i]?=some (some (h0,okB)):=by
  have ha :(asz[i]?).getD none=some (h0,okB):=ha
  cases hx:asz[i]? with
  | none=>rw [hx] at ha;cases ha
  | some a=>rw [hx] at ha;simp only [Option.getD_some] at ha;rw [ha]
 have:=vQ (vP h i h0 okB ha) j s b hs hb (by omega)
 simpa using this
theorem Jo {tb:Tbl} {ev:Operand→V} {op:Op} {h0:Nat} {tk te:TD} {k:V} {ok:Bool} (h:lkD tb ev op=some (h0,tk,te,k,ok)) :∃ t x ky q,op = .lookup t x ky ok∧fN tb t=some q∧ev x = .mpv h0∧q.1=tk∧q.2=te∧ev ky=k:=by
 unfold lkD at h
 split at h
 case h_2=>cases h
 rename_i t x ky ok'
 split at h
 case h_2=>cases h
 rename_i q hq
 split at h
 case h_2=>cases h
 rename_i h' hx
 cases h
 exact ⟨t,x,ky,q,rfl,hq,hx,rfl,rfl,rfl⟩
theorem nB {tk te:TD} {H:aw} {x k:V} {ok:Bool} {ps:List Ob} {v:V} {dh:List (Nat×Blk)} (h:cq tk te H x k ok = .val ps v dh):ps=[]∧dh=[]:=by
 unfold cq at h
 split at h
 case h_2=>cases h
 split at h
 ·cases h;exact ⟨rfl,rfl⟩
 ·split at h
  ·cases h;exact ⟨rfl,rfl⟩
  ·cases h
 ·cases h
theorem Bl {tk te:TD} {H:aw} {h0:Nat} {k:V} {ok:Bool} {b:Blk} (h:H h0=some b):cq tk te H (.mpv h0) k ok=cq tk te (fun _=>some b) (.mpv h0) k ok:=by
 simp only [cq,Mg,h]
section
variable {call:eK} {all:List Oper}
theorem we (hT:a6 P tb) (hcall:CallVOK P call) {st:St} :∀ (rest:List Oper) (tm:TM) (hp:HP) (nx:Nat) (rr:List (Rec×Alt)) (ra:List (Rec×Alt)) (recs:List Rec) (d:Dl) (l:Lf) (tm':TM) (hp':HP) (nx':Nat),ly tb N K call all rest tm hp nx rr = .go l tm' hp' nx'→rr.reverse=ra→ra.map (·.1)=recs→
  KW K tm→hpW hp→FL K tm (d.tm++st.tm)→au st.H d.hp=hpH hp→∀ i,recs.length+rest.length=all.length→(∀ (j:Nat) (o:Oper),rest[j]?=some o→all[recs.length+j]?=some o)→(∀ (j:Nat) (o:Oper) (r:Rec),all[j]?=some o→recs[j]?=some r→r.dst=o.dst∧r.rs=ao all o)→
  l = .nrm∧KW K tm'∧hpW hp'∧∃ (ks:List (Nat×Cfg)) (als:List Alt) (df:Dl) (rf:List Rec),ks.length=rest.length∧Chain nx ks nx'∧(∀ q∈ks,CfgOK P q.2∧q.2.N=N)∧
   (∀ (Cf:Nat→Cfg) (lo:Nat→Nat) (al:Nat→Alt),(∀ j q,ks[j]?=some q→Cf (i+j)=q.2∧lo (i+j)=q.1)→(∀ j x,als[j]?=some x→al (i+j)=x)→RunV Cf lo al all st i rest d recs df rf)∧
   cF 0 all=true∧dX (bK all []) 0 rf=true∧AltOK (fun n=>((ra.map (·.2)++als)[n]?).getD none) (bK all []) rf∧FL K tm' (df.tm++st.tm)∧au st.H df.hp=hpH hp'
 | [],tm,hp,nx,rr,ra,recs,d,l,tm',hp',nx',h,hrr,hra,Wt,Wh,h2,h3,i,hln,_,hrc=>by
  simp only [ly,hrr,hra] at h
  cases hc:Gj all&&(G4 (bK all []) recs 0 recs&&yu (bK all []) recs 0 (ra.map (·.2))) with
  | false=>rw [hc] at h;cases h
  | true=>
   rw [hc] at h
   simp only [cond_true,Rv.go.injEq] at h
   obtain ⟨rfl,rfl,rfl,rfl⟩:=h
   simp only [Bool.and_eq_true] at hc
   have hal:=OR hc.2.2
   have hc:=O8 (by simpa using hln) hrc hc.1 hc.2.1
   exact ⟨rfl,Wt,Wh,[],[],d,recs,rfl,rfl,fun q hq=>by simp at hq,fun _ _ _ _ _=> .nil,hc.1,hc.2,by simpa using hal,h2,h3⟩
 | o::rest,tm,hp,nx,rr,ra,recs,d,l,tm',hp',nx',h,hrr,hra,Wt,Wh,h2,h3,i,hln,hall,hrc=>by
  simp only [ly] at h
  cases hd0:Bc N K o.dst with
  | false=>rw [hd0] at h;cases h
  | true=>
   rw [hd0] at h
   simp only [cond_true] at h
   have hd:=LJ hd0
   have h1:=h2.look
   have glue :∀ (C0:Cfg) (alt:Alt) (r:Rec) (u:U) (hp1:HP) (nx1:Nat),CfgOK P C0→C0.N=N→nx+C0.K≤nx1→DoesV C0 alt all (d.tm++st.tm) (au st.H d.hp) nx o r→
     u.toV=r.v→r.dst=o.dst→u.wf→hpW hp1→hpH hp1=au (hpH hp) r.dh→ly tb N K call all rest (mq o.dst u tm) hp1 nx1 ((r,alt)::rr) = .go l tm' hp' nx'→
     l = .nrm∧KW K tm'∧hpW hp'∧∃ (ks:List (Nat×Cfg)) (als:List Alt) (df:Dl) (rf:List Rec),ks.length =(o::rest).length∧Chain nx ks nx'∧(∀ q∈ks,CfgOK P q.2∧q.2.N=N)∧
      (∀ (Cf:Nat→Cfg) (lo:Nat→Nat) (al:Nat→Alt),(∀ j q,ks[j]?=some q→Cf (i+j)=q.2∧lo (i+j)=q.1)→(∀ j x,als[j]?=some x→al (i+j)=x)→RunV Cf lo al all st i (o::rest) d recs df rf)∧
      cF 0 all=true∧dX (bK all []) 0 rf=true∧AltOK (fun n=>((ra.map (·.2)++als)[n]?).getD none) (bK all []) rf∧FL K tm' (df.tm++st.tm)∧au st.H df.hp=hpH hp':=fun C0 alt r u hp1 nx1 hC hCN hle hdo hu hrd huw W1 hhp hrest=>by
    have hf':FL K (mq o.dst u tm) (cc r.dst r.v++d.tm++st.tm):=by
     rw [List.append_assoc,hrd]
     exact h2.put hd0 hu
    obtain ⟨q1,q2,q3,ks,als,df,rf,k1,k2,k3,k4,k5a,k5b,k5c,k5⟩:=we hT hcall (st:=st) rest (mq o.dst u tm) hp1 nx1 ((r,alt)::rr) (ra++[(r,alt)]) (recs++[r]) ⟨cc r.dst r.v++d.tm,r.dh++d.hp⟩ l tm' hp' nx' hrest (by rw [List.reverse_cons,hrr]) (by rw [List.map_append,hra];rfl) (Wt.put hd0 huw) W1 hf' (by rw [bT,h3,hhp]) (i+1) (by simp at hln ⊢;omega) (fun j o' hj=>by
     have:=hall (j+1) o' (by simpa using hj)
     rw [List.length_append,List.length_singleton,show recs.length+1+j=recs.length +(j+1) by omega]
     exact this) (fun j o' r' ho' hr'=>by
     rcases Nat.lt_or_ge j recs.length with hj|hj
     ·rw [List.getElem?_append_left hj] at hr'
      exact hrc j o' r' ho' hr'
     ·rw [List.getElem?_append_right hj] at hr'
      have hj0:j - recs.length=0:=by
       cases hx:j - recs.length with
       | zero=>rfl
       | succ n=>rw [hx] at hr';simp at hr'
      rw [hj0] at hr'
      simp only [List.getElem?_cons_zero,Option.some.injEq] at hr'
      subst hr'
      have:=hall 0 o (by simp)
      rw [Nat.add_zero,show recs.length=j by omega] at this
      rw [this] at ho'
      cases ho'
      obtain ⟨_,q1,q2⟩:=hdo.dstIn
      exact ⟨q1,q2⟩)
    refine ⟨q1,q2,q3,(nx,C0)::ks,alt::als,df,rf,by simp [k1],⟨rfl,nx1,hle,k2⟩,fun q hq=>?_,fun Cf lo al hCf hal=>?_,k5a,k5b,by simpa using k5c,k5⟩
    ·rcases List.mem_cons.1 hq with rfl|hq
     ·exact ⟨hC,hCN⟩
     ·exact k3 q hq
    ·have h0:=hCf 0 (nx,C0) (by simp)
     have h0a:=hal 0 alt (by simp)
     refine .cons (r:=r) ?_ (k4 Cf lo al (fun j q hq=>?_) fun j x hx=>?_)
     ·rw [show i=i+0 from rfl,h0.1,h0.2,h0a];exact hdo
     ·have:=hCf (j+1) q (by simpa using hq)
      rw [show i+1+j=i +(j+1) by omega]
      exact this
     ·have:=hal (j+1) x (by simpa using hx)
      rw [show i+1+j=i +(j+1) by omega]
      exact this
   have hmask :∀ rs,a8 rs (d.tm++st.tm)=eZ K rs tm:=fun rs=>Js h1
   have hC1:CfgOK P ⟨tb,fun _=>none,1,N⟩:=⟨hT,Nat.le_refl _,fun _ _ h=>by cases h⟩
   split at h
   ·
    rename_i hg
    rw [cV] at h
    exact glue ⟨tb,fun _=>none,1,N⟩ none ⟨o.dst,.tup [],[],[],ao all o⟩ (.tup []) hp (nx+1) hC1 rfl (Nat.le_refl _) (.old (.skip hd (by rw [jU h1];exact hg))) rfl rfl (fun w hw=>by cases hw) Wh rfl h
   ·rename_i hg
    simp only [oa,xS,Hc] at h
    split at h
    ·
     rename_i h0 tk te ky ok hlk
     obtain ⟨t,x,kx,q,ho,hq,hx,rfl,rfl,rfl⟩:=Jo hlk
     split at h
     case h_2=>cases h
     rename_i ps v dh he
     split at h
     case h_2=>cases h
     rename_i u hu
     rw [cV] at h
     obtain ⟨rfl,rfl⟩:=nB he
     obtain ⟨hu1,hu2⟩:=uW hu
     have ev1 :∀ H2:aw,aH ⟨tb,fun _=>none,1,N⟩ nx H2 (eZ K (ao all o) tm) o.op=match cq q.1 q.2 H2 (.mpv h0) (eZ K (ao all o) tm kx) ok with | .val ps v dh=>some (ps,v,dh)|_=>none:=fun H2=>by
      simp only [aH,ho,b7,bO,hq,hx]
      rfl
     refine glue ⟨tb,fun _=>none,1,N⟩ (some (h0,Qx q.1 q.2 h0 (eZ K (ao all o) tm kx) ok v)) ⟨o.dst,jH v,[],[],ao all o⟩ u hp (nx+1) hC1 rfl (Nat.le_refl _) (.dir (v:=v) (ps:= []) hd (by rw [jU h1];exact hg) (by rw [hmask,h3,ev1,he]) (fun H2 _ hag=>?_) (fun p hp=>by cases hp) (by cases v <;> simp [jH])) hu1 rfl hu2 Wh rfl h
     rw [hmask,h3,ev1,ev1,he]
     rcases hag h0 _ rfl with e |⟨b,e1,e2⟩
     ·rw [h3] at e
      have:cq q.1 q.2 H2 (.mpv h0) (eZ K (ao all o) tm kx) ok=cq q.1 q.2 (hpH hp) (.mpv h0) (eZ K (ao all o) tm kx) ok:=by simp only [cq,Mg,e]
      rw [this,he]
     ·rw [Bl e1]
      unfold Qx at e2
      split at e2
      ·rename_i ps' v' dh' he'
       obtain ⟨rfl,rfl⟩:=nB he'
       first|rw [he',V.eqb_eq _ _ e2]|rw [V.eqb_eq _ _ e2]
      ·cases e2
    rename_i hlk
    cases hdir:oM (eZ K (ao all o) tm) o.op
    case true=>
     rw [hdir] at h
     simp only [cond_true] at h
     split at h
     case h_1=>cases h
     rename_i ps v dh he
     cases hps:ps.all Ob.chk with
     | false=>rw [hps] at h;cases h
     | true=>
      rw [hps] at h
      simp only [cond_true] at h
      split at h
      case h_2=>cases h
      rename_i u hp2 hu hs
      rw [cV] at h
      obtain ⟨hu1,hu2⟩:=uW hu
      obtain ⟨hs1,hs2⟩:=lh Wh hs
      have hev:=qd tb N nx _ _ o.op he
      refine glue ⟨tb,fun _=>none,1,N⟩ none ⟨o.dst,jH v,dh,_,ao all o⟩ u hp2 (nx+1) hC1 rfl (Nat.le_refl _) (.dir (v:=v) (ps:=ps) hd (by rw [jU h1];exact hg) (by rw [hmask,h3];exact hev) (fun H2 hag=>?_) (fun p hp=>Ob.chk_holds (List.all_eq_true.1 hps p hp)) (by cases v <;> simp [jH])) hu1 rfl hu2 hs2 hs1 h
      rw [hmask]
      rw [h3] at hag ⊢
      exact fun _=>Ba hdir (fun x hx k hk=>hag k (List.mem_flatMap.2 ⟨x,hx,hk⟩))
    rw [hdir] at h
    simp only [cond_false] at h
    split at h
    ·
     rename_i g args he
     have hwa :∀ x∈args.map ku,x.wf:=fun x hx=>by
      obtain ⟨v,_,rfl⟩:=List.mem_map.1 hx
      exact lr v
     obtain ⟨u,hp2,dh,nx2,h,huw,W2,hhp,hfn,hle,hcalls⟩:=yS hcall Wh hwa h
     cases hfr:gW (hpH hp) (nI (hpH hp) 8 (o.op.operands.toList.flatMap fun x=>(eZ K (ao all o) tm x).hs) []) nx (nx2+1 - nx) u.toV dh with
     | false=>rw [hfr] at h;cases h
     | true=>
      rw [hfr] at h
      simp only [cond_true,cV] at h
      obtain ⟨c,f,caps,ho,hf,hg2,hargs,hpl⟩:=IE tb N nx _ _ o.op he
      let ct:Ctr:=fun args' H' m'=>open Classical in if args'=args∧H'=restr (hpH hp) (nI (hpH hp) 8 (o.op.operands.toList.flatMap fun x=>(eZ K (ao all o) tm x).hs) [])∧m'=nx then some ([],u.toV,dh) else none
      let C0:Cfg:=⟨tb,fun g'=>if g'=g then some ct else none,nx2+1 - nx,N⟩
      have hK:1≤nx2+1 - nx:=by omega
      have hC:CfgOK P C0:=⟨hT,hK,fun f' c' hf'=>by
       have hf2 :(if f'=g then some ct else none)=some c':=hf'
       split at hf2
       case isFalse=>cases hf2
       rename_i e
       cases hf2
       subst e
       refine ⟨hfn,fun B E hE args' av hav m hm ps' v' dh' hp2 _=>?_⟩
       simp only [ct] at hp2
       split at hp2
       case isFalse=>cases hp2
       rename_i e
       obtain ⟨rfl,e2,rfl⟩:=e
       cases hp2
       refine hcalls B E av hE e2 ?_ (fun n h1 h2=>hm n h1 (by show n<m +(nx2+1 - m);omega))
       rw [List.map_map]
       exact pR (fun v=>v) _ lq args' av (by simpa using hav)⟩
      have hev:aH C0 nx (restr (hpH hp) (nI (hpH hp) 8 (o.op.operands.toList.flatMap fun x=>(eZ K (ao all o) tm x).hs) [])) (eZ K (ao all o) tm) o.op=some ([],u.toV,dh):=by
       simp only [aH,ho,b7,bO,hf,hg2,C0,if_true,Ev hpl]
       rw [←hargs]
       simp only [yY,ct]
       rw [if_pos ⟨rfl,by rw [ho],rfl⟩]
       rfl
      refine glue C0 none ⟨o.dst,u.toV,dh,_,ao all o⟩ u hp2 (nx2+1) hC rfl (by show nx +(nx2+1 - nx)≤nx2+1;omega) (.old <| .run (v:=u.toV) hd (by rw [jU h1];exact hg) (by
       simp only [mH]
       rw [hmask,h3]
       rw [hev]
       simp only [C0,hfr,cond_true]
       rfl) (fun p hp=>by cases hp) (.inl rfl)) rfl rfl huw W2 hhp h
    ·cases h
    ·
     rename_i ps v dh he
     cases hfr:ps.all Ob.chk&&gW (hpH hp) (nI (hpH hp) 8 (o.op.operands.toList.flatMap fun x=>(eZ K (ao all o) tm x).hs) []) nx 1 v dh with
     | false=>rw [hfr] at h;cases h
     | true=>
      rw [hfr] at h
      simp only [cond_true] at h
      simp only [Bool.and_eq_true] at hfr
      split at h
      case h_2=>cases h
      rename_i u hp2 hu hs
      rw [cV] at h
      obtain ⟨hu1,hu2⟩:=uW hu
      obtain ⟨hs1,hs2⟩:=lh Wh hs
      have hev:=G9 tb N nx _ _ o.op he
      refine glue ⟨tb,fun _=>none,1,N⟩ none ⟨o.dst,jH v,dh,_,ao all o⟩ u hp2 (nx+1) hC1 rfl (Nat.le_refl _) (.old <| .run (v:=v) hd (by rw [jU h1];exact hg) (by
       simp only [mH]
       rw [hmask,h3]
       rw [hev]
       simp only [hfr.2,cond_true]) (fun p hp=>Ob.chk_holds (List.all_eq_true.1 hfr.1 p hp)) (by cases v <;> simp [jH])) hu1 rfl hu2 hs2 hs1 h
   ·cases h
theorem Dy (hT:a6 P tb) (hP:P.follows .mixedOrders=true) (hcall:CallVOK P call) {tm:TM} {hp:HP} {nx:Nat} {l:Lf} {tm':TM} {hp':HP} {nx':Nat} (Wt:WT K tm) (Wh:hpW hp) (h:ly tb N K call all all tm hp nx [] = .go l tm' hp' nx') (id:Nat) :
  EndsV N K en0 u0 u0 u0 u0 tm hp nx l tm' hp' nx' (fun Q act w=>(Code.region id all.toArray true).wp P Q act w):=by
 obtain ⟨q1,q2,q3,ks,als,df,rf,k1,k2,k3,k4,k5,k6,k6a,k7,k8⟩:=we hT hcall (st:=⟨tmL K tm 512,[],hpH hp,nx⟩) all tm hp nx [] [] [] ⟨[],[]⟩ l tm' hp' nx' h rfl rfl Wt.tm Wh (yq tm) rfl 0 (by simp) (fun j o h=>by simpa using h) (fun j o r _ h=>by simp at h)
 refine ⟨q1,k2.le,q2.wt,q3,fun B E0 n0 Q E act hfr hQ hR=>?_⟩
 have hC0:CfgOK P ⟨tb,fun _=>none,1,N⟩:=⟨hT,Nat.le_refl _,fun _ _ h=>by cases h⟩
 let Cf:Nat→Cfg:=fun j=>match ks[j]? with|some q=>q.2|none=>⟨tb,fun _=>none,1,N⟩
 let lo:Nat→Nat:=fun j=>match ks[j]? with|some q=>q.1|none=>0
 have hCf :∀ j q,ks[j]?=some q→Cf j=q.2∧lo j=q.1:=fun j q hq=>by simp only [Cf,lo,hq];exact ⟨trivial,trivial⟩
 have hget :∀ j,j<all.length→∃ q,ks[j]?=some q:=fun j hj=>⟨ks[j]'(by omega),List.getElem?_eq_getElem (by omega)⟩
 have hle:n0≤nx:=hR.le
 have tmok :∀ {tm:TM} {L:List (Nat×V)} {E:Env} {act:Act},FL K tm L→(∀ i,isK K i=true→aa E ((cC i).get tm).toV (act.tmps.getD i undef))→eJ E (find L) act:=fun {tm L E act} hL ht s v hv=>by
  rw [hL s] at hv
  by_cases hk:isK K s=true
  ·rw [if_pos hk] at hv
   cases hv
   exact ht s hk
  ·rw [if_neg hk] at hv
   cases hv
 refine G3 (Cf:=Cf) (lo:=lo) (al:=fun n=>(als[n]?).getD none) (N:=N) (fun j=>?_) (fun j=>?_) hP (k4 Cf lo _ (fun j q hq=>by rw [Nat.zero_add];exact hCf j q hq) (fun j x hx=>by rw [Nat.zero_add,hx];rfl)) k5 k6 (by simpa using k6a) hR.rel hR.h (tmok (yq tm) hR.tm.tm) hR.size hR.defers (fun j hj n h1 h2 hu=>?_) (fun i j hij hj=>?_) (fun E' a' r1 x1 h1 u1 t1 s1 d1=>?_) id
 ·show CfgOK P (match ks[j]? with|some q=>q.2|none=>⟨tb,fun _=>none,1,N⟩)
  cases hq:ks[j]? with
  | none=>exact hC0
  | some q=>exact (k3 q (List.mem_of_getElem? hq)).1
 ·show (match ks[j]? with|some q=>q.2|none=>(⟨tb,fun _=>none,1,N⟩:Cfg)).N=N
  cases hq:ks[j]? with
  | none=>rfl
  | some q=>exact (k3 q (List.mem_of_getElem? hq)).2
 ·obtain ⟨q,hq⟩:=hget j hj
  obtain ⟨e1,e2⟩:=hCf j q hq
  rw [e1,e2] at h2
  rw [e2] at h1
  have:=k2.at j q hq
  rcases hR.u n hu with h3|h3
  ·exact hfr n (by omega) (by omega) h3
  ·have:=h3.2;omega
 ·obtain ⟨p,hp⟩:=hget i (by omega)
  obtain ⟨q,hq⟩:=hget j hj
  rw [(hCf i p hp).1,(hCf i p hp).2,(hCf j q hq).2]
  exact k2.lt i j p q hij hp hq
 ·have t2:TmR K en0 u0 u0 u0 u0 tm' E' a':=by
   have h2 :∀ i,isK K i=true→aa E' ((cC i).get tm').toV (a'.tmps.getD i undef):=fun i hi=>t1 i _ (by rw [k7 i,if_pos hi])
   refine ⟨fun i=>?_,h2⟩
   rw [iC]
   cases hk:isK K i with
   | true=>exact h2 i hk
   | false=>exact oD
  refine hQ E' a' ⟨r1,hR.ext.trans x1,by rw [h1];exact k8,fun n hn=>?_,Nat.le_trans hle k2.le,t2,s1,d1⟩
  rcases u1 n hn with h |⟨j,hj,h2,h3⟩
  ·rcases hR.u n h with h|h
   ·exact .inl h
   ·have:=k2.le;exact .inr ⟨h.1,by have:=h.2;omega⟩
  ·obtain ⟨q,hq⟩:=hget j hj
   obtain ⟨e1,e2⟩:=hCf j q hq
   rw [e1,e2] at h3
   rw [e2] at h2
   have:=k2.at j q hq
   exact .inr ⟨by omega,by omega⟩
end
end
section
open Go.RowKit
variable {P:Program} {tb:Tbl} {N K:Nat} {call:eK}
structure EndsC (N K:Nat) (tm:TM) (hp:HP) (nx:Nat) (l:Lf) (tm':TM) (hp':HP) (nx':Nat) (W:Wp):Prop where
 le:nx≤nx'
 wt:WT K tm'
 hw:hpW hp'
 wp :∀ (B:Base) (E0:Env) (n0:Nat) (Q:Exit→Act→World→Prop) (E:Env) (act:Act),(∀ n,n0≤n→n<nx'→¬ E0.U n)→(∀ E act,RX B E0 n0 N K tm' hp' nx' E act→Q (fI l) act E.w)→RX B E0 n0 N K tm hp nx E act→W Q act E.w
def Dh (N K:Nat) (f:KR) (W:Wp):Prop:=∀ (tm:TM) (hp:HP) (nx:Nat) (l:Lf) (tm':TM) (hp':HP) (nx':Nat),WT K tm→hpW hp→f tm hp nx = .go l tm' hp' nx'→EndsC N K tm hp nx l tm' hp' nx' W
theorem xu {b:Code} {f:KR} (hf:Dh N K f (fun Q act w=>b.wp P Q act w)) :∀ n,Dh N K (Jp f n) (fun Q act w=>Code.rounds P b Q n act w)
 | 0=>fun tm hp nx l tm' hp' nx' Wt Wh h=>by cases h
 | n+1=>fun tm hp nx l tm' hp' nx' Wt Wh h=>by
  have h:eB nx (fun nx=>MZ (f tm hp nx) (Jp f n)) = .go l tm' hp' nx':=h
  rw [cV] at h
  cases hr:f tm hp nx with
  | no w=>rw [hr] at h;cases h
  | go e1 tm1 hp1 nx1=>
   rw [hr] at h
   have h1:=hf tm hp nx e1 tm1 hp1 nx1 Wt Wh hr
   have hl1:=h1.le
   cases e1 with
   | nrm=>
    have h2:=xu hf n tm1 hp1 nx1 l tm' hp' nx' h1.wt h1.hw h
    have hl2:=h2.le
    refine ⟨by omega,h2.wt,h2.hw,fun B E0 n0 Q E act hfr hQ hR=>?_⟩
    show Code.rounds P b Q (n+1) act E.w
    rw [rounds_succ]
    exact h1.wp B E0 n0 _ E act (fun k h3 h4=>hfr k h3 (by omega)) (fun E act hR1=>h2.wp B E0 n0 Q E act hfr hQ hR1) hR
   | ext id=>
    cases h
    refine ⟨hl1,h1.wt,h1.hw,fun B E0 n0 Q E act hfr hQ hR=>?_⟩
    show Code.rounds P b Q (n+1) act E.w
    rw [rounds_succ]
    exact h1.wp B E0 n0 _ E act hfr (fun E act hR1=>hQ E act hR1) hR
   | ret=>
    cases h
    refine ⟨hl1,h1.wt,h1.hw,fun B E0 n0 Q E act hfr hQ hR=>?_⟩
    show Code.rounds P b Q (n+1) act E.w
    rw [rounds_succ]
    exact h1.wp B E0 n0 _ E act hfr (fun E act hR1=>hQ E act hR1) hR
theorem I0 {e:En} {i:Nat} {k:Gt→Cd}:Fy K e i k=k (dt K e i):=by
 unfold Fy dt
 cases Nat.beq e.e0 (Nat.succ i)
 case true=>rfl
 cases Nat.beq e.e1 (Nat.succ i)
 case true=>rfl
 cases Nat.beq e.e2 (Nat.succ i)
 case true=>rfl
 cases Nat.beq e.e3 (Nat.succ i)
 case true=>rfl
 cases isK K i
 case true=>rfl
 rfl
attribute [local irreducible] jv in
theorem fH (hT:a6 P tb) (hP:P.follows .mixedOrders=true) (hcall:CallVOK P call) :∀ (c:Code),Dh N K ((fE tb N K c).run call) (fun Q act w=>c.wp P Q act w)
 | .skip=>fun tm hp nx l tm' hp' nx' Wt Wh h=>by
  cases h
  exact ⟨Nat.le_refl _,Wt,Wh,fun B E0 n0 Q E act hfr hQ hR=>wp_skip (hQ E act hR)⟩
 | .ret=>fun tm hp nx l tm' hp' nx' Wt Wh h=>by
  cases h
  exact ⟨Nat.le_refl _,Wt,Wh,fun B E0 n0 Q E act hfr hQ hR=>wp_ret (hQ E act hR)⟩
 | .exit id=>fun tm hp nx l tm' hp' nx' Wt Wh h=>by
  cases h
  exact ⟨Nat.le_refl _,Wt,Wh,fun B E0 n0 Q E act hfr hQ hR=>wp_exit (hQ E act hR)⟩
 | .region id ops false=>fun tm hp nx l tm' hp' nx' Wt Wh h=>by
  have h:Cd.run (QN tb N K ops.toList) call tm hp nx = .go l tm' hp' nx':=h
  unfold QN at h
  cases hd:Iy N ops.toList with
  | false=>rw [hd] at h;cases h
  | true=>
   rw [hd] at h
   have h1:=Co (P:=P) (N:=N) (K:=K) (all:=ops.toList) hT hcall ops.toList en0 (fun o ho=>List.all_eq_true.1 hd o ho) u0 u0 u0 u0 tm hp nx l tm' hp' nx' Wt Wh h
   obtain rfl:=h1.l
   refine ⟨h1.le,h1.wt,h1.hw,fun B E0 n0 Q E act hfr hQ hR=>wp_region_list ?_⟩
   have:=h1.wp B E0 n0 Q E act hfr hQ hR
   simpa using this
 | .region id ops true=>fun tm hp nx l tm' hp' nx' Wt Wh h=>by
  have h:ly tb N K call ops.toList ops.toList tm hp nx [] = .go l tm' hp' nx':=h
  have h1:=Dy (P:=P) hT hP hcall Wt Wh h id
  obtain rfl:=h1.l
  refine ⟨h1.le,h1.wt,h1.hw,fun B E0 n0 Q E act hfr hQ hR=>?_⟩
  have:=h1.wp B E0 n0 Q E act hfr hQ hR
  simpa using this
 | .seq x y=>fun tm hp nx l tm' hp' nx' Wt Wh h=>by
  have h:MZ (Cd.run (fE tb N K x) call tm hp nx) (Cd.run (fE tb N K y) call) = .go l tm' hp' nx':=h
  cases hr:Cd.run (fE tb N K x) call tm hp nx with
  | no w=>rw [hr] at h;cases h
  | go e1 tm1 hp1 nx1=>
   rw [hr] at h
   have h1:=fH hT hP hcall x tm hp nx e1 tm1 hp1 nx1 Wt Wh hr
   have hl1:=h1.le
   cases e1 with
   | nrm=>
    have h2:=fH hT hP hcall y tm1 hp1 nx1 l tm' hp' nx' h1.wt h1.hw h
    have hl2:=h2.le
    exact ⟨by omega,h2.wt,h2.hw,fun B E0 n0 Q E act hfr hQ hR=>wp_seq (h1.wp B E0 n0 _ E act (fun k h3 h4=>hfr k h3 (by omega)) (fun E act hR1=>h2.wp B E0 n0 Q E act hfr hQ hR1) hR)⟩
   | ext id=>
    cases h
    exact ⟨hl1,h1.wt,h1.hw,fun B E0 n0 Q E act hfr hQ hR=>wp_seq (h1.wp B E0 n0 _ E act hfr (fun E act hR1=>hQ E act hR1) hR)⟩
   | ret=>
    cases h
    exact ⟨hl1,h1.wt,h1.hw,fun B E0 n0 Q E act hfr hQ hR=>wp_seq (h1.wp B E0 n0 _ E act hfr (fun E act hR1=>hQ E act hR1) hR)⟩
 | .cond c x y=>fun tm hp nx l tm' hp' nx' Wt Wh h=>by
  have key :∀ (u:U),(∀ E act,TmR K en0 u0 u0 u0 u0 tm E act→aa E u.toV (act.eval c))→uKb u (fun b=>Bool.rec (motive:=fun _=>Rv) (Cd.run (fE tb N K y) call tm hp nx) (Cd.run (fE tb N K x) call tm hp nx) b) (.no [4]) = .go l tm' hp' nx'→EndsC N K tm hp nx l tm' hp' nx' (fun Q act w=>(Code.cond c x y).wp P Q act w):=fun u hu h=>by
   cases u with
   | kb b=>
    cases b with
    | true=>
     have h1:=fH hT hP hcall x tm hp nx l tm' hp' nx' Wt Wh h
     exact ⟨h1.le,h1.wt,h1.hw,fun B E0 n0 Q E act hfr hQ hR=>wp_cond_true (by have:=hu E act hR.tm;simpa [U.toV,aa] using this) (h1.wp B E0 n0 Q E act hfr hQ hR)⟩
    | false=>
     have h1:=fH hT hP hcall y tm hp nx l tm' hp' nx' Wt Wh h
     exact ⟨h1.le,h1.wt,h1.hw,fun B E0 n0 Q E act hfr hQ hR=>wp_cond_false (by have:=hu E act hR.tm;simpa [U.toV,aa] using this) (h1.wp B E0 n0 Q E act hfr hQ hR)⟩
   | _=>cases h
  cases c with
  | tmp i=>
   have h:Cd.run (Fy K en0 i fun g=>⟨fun call tm hp nx=>uKb (g u0 u0 u0 u0 tm) (fun b=>Bool.rec (motive:=fun _=>Rv) (Cd.run (fE tb N K y) call tm hp nx) (Cd.run (fE tb N K x) call tm hp nx) b) (.no [4])⟩) call tm hp nx = .go l tm' hp' nx':=h
   rw [I0] at h
   exact key (dt K en0 i u0 u0 u0 u0 tm) (fun E act hR=>hR.win i) h
  | const v=>exact key (ku (cv v)) (fun E act hR=>lq _ _ _ (gl v)) h
  | global i=>cases h
  | func f=>cases h
 | .block id b=>fun tm hp nx l tm' hp' nx' Wt Wh h=>by
  have h:H7 id (Cd.run (fE tb N K b) call tm hp nx) = .go l tm' hp' nx':=h
  cases hr:Cd.run (fE tb N K b) call tm hp nx with
  | no w=>rw [hr] at h;cases h
  | go e1 tm1 hp1 nx1=>
   rw [hr] at h
   have h1:=fH hT hP hcall b tm hp nx e1 tm1 hp1 nx1 Wt Wh hr
   cases e1 with
   | nrm=>
    cases h
    exact ⟨h1.le,h1.wt,h1.hw,fun B E0 n0 Q E act hfr hQ hR=>wp_block (h1.wp B E0 n0 _ E act hfr (fun E act hR1=>hQ E act hR1) hR)⟩
   | ret=>
    cases h
    exact ⟨h1.le,h1.wt,h1.hw,fun B E0 n0 Q E act hfr hQ hR=>wp_block (h1.wp B E0 n0 _ E act hfr (fun E act hR1=>hQ E act hR1) hR)⟩
   | ext i=>
    have h :(Bool.rec (motive:=fun _=>Rv) (.go (.ext i) tm1 hp1 nx1) (.go .nrm tm1 hp1 nx1) (Nat.beq i id):Rv) = .go l tm' hp' nx':=h
    cases hb:Nat.beq i id with
    | true=>
     rw [hb] at h
     cases h
     refine ⟨h1.le,h1.wt,h1.hw,fun B E0 n0 Q E act hfr hQ hR=>wp_block (h1.wp B E0 n0 _ E act hfr (fun E act hR1=>?_) hR)⟩
     simp only [fI,Exit.inBlock]
     rw [if_pos (aE hb)]
     exact hQ E act hR1
    | false=>
     rw [hb] at h
     cases h
     refine ⟨h1.le,h1.wt,h1.hw,fun B E0 n0 Q E act hfr hQ hR=>wp_block (h1.wp B E0 n0 _ E act hfr (fun E act hR1=>?_) hR)⟩
     simp only [fI,Exit.inBlock]
     rw [if_neg (fun e=>by subst e;rw [Nat.beq_refl] at hb;cases hb)]
     exact hQ E act hR1
 | .loop b=>fun tm hp nx l tm' hp' nx' Wt Wh h=>by
  have h1:=xu (fH hT hP hcall b) jv tm hp nx l tm' hp' nx' Wt Wh h
  exact ⟨h1.le,h1.wt,h1.hw,fun B E0 n0 Q E act hfr hQ hR=>wp_loop_rounds jv (h1.wp B E0 n0 Q E act hfr hQ hR)⟩
 | .rangeFunc _ _ _ _=>fun tm hp nx l tm' hp' nx' Wt Wh h=>by cases h
 | .scope _=>fun tm hp nx l tm' hp' nx' Wt Wh h=>by cases h
 | .label _=>fun tm hp nx l tm' hp' nx' Wt Wh h=>by cases h
 | .goto _=>fun tm hp nx l tm' hp' nx' Wt Wh h=>by cases h
 | .refuse _=>fun tm hp nx l tm' hp' nx' Wt Wh h=>by cases h
theorem vS :∀ {l:List U} {i:Nat} {tm:TM} {s:Nat},i+l.length≤512→s<512→(cC s).get (je l i tm)=if i≤s∧s<i+l.length then (l[s - i]?).getD u0 else (cC s).get tm
 | [],i,tm,s,_,_=>by rw [if_neg (by simp)];rfl
 | u::l,i,tm,s,h,hs=>by
  simp only [List.length_cons] at h
  show (cC s).get (je l (i+1) (uU tm i u))=_
  rw [vS (by omega) hs]
  by_cases e:s=i
  ·subst e
   rw [if_neg (by omega),if_pos (by simp),kq,hJ]
   simp
  ·by_cases e2:i+1≤s∧s<i+1+l.length
   ·rw [if_pos e2,if_pos (by simp;omega)]
    obtain ⟨d,rfl⟩ :∃ d,s=i+1+d:=⟨s - (i+1),by omega⟩
    rw [show i+1+d - (i+1)=d by omega,show i+1+d - i=d+1 by omega]
    simp
   ·rw [if_neg e2,if_neg (by simp;omega),kq,E6 (by omega) hs (Ne.symm e)]
theorem M9 (s:Nat) :(cC s).get tm0=u0:=HU _ _
theorem Gc {G:Rv→Prop} {sl:Rv} (h0:G sl) {tm:TM} (Wt:WT K tm) {hp:HP} (Wh:hpW hp) {r:ResultVar} {k:U→Rv} (h :∀ u v,Ah tb (tmL K tm 512) (hpH hp) r=some v→v=u.toV→u.wf→G (k u)):G (Ge tb K r tm hp k sl):=by
 have hl :∀ s,cA (tmL K tm 512) s =(dt K en0 s u0 u0 u0 u0 tm).toV:=(yq tm).look
 cases r with
 | tmp t=>exact h _ _ (by simp only [Ah,hl]) rfl (Wt.win t)
 | cell a t=>
  show G (TI.rec (motive:=fun _=>TM→HP→(U→Rv)→Rv→Rv) (fun _ _ _ sl=>sl) (fun tm hp=>ldP BU (dt K en0 a u0 u0 u0 u0 tm) hp) (fun n tm hp=>ldP (BT n) (dt K en0 a u0 u0 u0 u0 tm) hp) (tyI tb t) tm hp k sl)
  have main :∀ f:LdF,Sh tb t f→G (ldP f (dt K en0 a u0 u0 u0 u0 tm) hp k sl):=fun f hf=>by
   obtain ⟨td,ht,hf⟩:=hf
   refine qq h0 (fun q o hx=>IR h0 fun ct n hg=>?_) (fun q v o hx=>h0)
   obtain ⟨cs,hc,hH,_⟩:=qu Wh hg
   refine hf G ct n cs o k sl hc h0 fun u v hl1 hv hw=>h u v ?_ hv hw
   simp only [Ah,ht,hl,tvp hx,lT,hH,hl1]
  cases hi:tyI tb t with
  | no=>exact h0
  | one=>
   refine main BU ?_
   obtain ⟨td,ht,ha,hs⟩:=AL hi
   refine ⟨td,ht,fun G ct n cs o k sl hc h0 hk=>b8 h0 fun hb=>?_⟩
   have hlt:o<n:=bm hb
   refine hk _ (cb ct o).toV ?_ (Ds _).symm (Ij _)
   unfold ld
   rw [ha,hc.get o hlt]
   rfl
  | agg m=>
   refine main (BT m) ?_
   obtain ⟨td,ht,ha,hs⟩:=AK hi
   refine ⟨td,ht,fun G ct n cs o k sl hc h0 hk=>b8 h0 fun hb=>?_⟩
   have hle:o+m≤n:=bm hb
   have hld:ld td cs o = .val [] (.agg ((cs.drop o).take m)) []:=by
    unfold ld
    rw [ha,hs,if_pos rfl,if_pos (by rw [hc.len];exact hle)]
   cases hm:Nat.beq m n with
   | false=>
    have:=hc.sub hle
    exact hk _ _ hld (by show _=V.agg (toL _ _);rw [this.toL]) ⟨_,this⟩
   | true=>
    have e1:=aE hm
    have e0:o=0:=by omega
    subst e0
    subst e1
    refine hk _ _ hld ?_ ⟨_,hc⟩
    show _=V.agg (toL ct m)
    rw [hc.toL,List.drop_zero,List.take_of_length_le (by rw [hc.len];exact Nat.le_refl _)]
theorem Se {G:Rv→Prop} {sl:Rv} (h0:G sl) {u:U} (hu:u.wf) {k:W→Rv} (h :∀ w,w.toV=u.toV→w.wf→G (k w)):G (wOf u k sl):=by
 refine IT h0 (fun c hc _=>h (.c c) hc trivial) (fun t n e=>?_)
 subst e
 exact h (.agg t n) rfl hu
theorem Gd {G:Rv→Prop} {sl:Rv} (h0:G sl) {tm:TM} (Wt:WT K tm) {hp:HP} (Wh:hpW hp) :∀ {rs:List ResultVar} {k:List W→Rv},(∀ ws,oB tb (tmL K tm 512) (hpH hp) rs=some (ws.map W.toV)→(∀ w∈ws,w.wf)→G (k ws))→G (Ks tb K rs tm hp k sl)
 | [],k,h=>h [] rfl (fun w hw=>by cases hw)
 | r::rs,k,h=>by
  show G (Ge tb K r tm hp (fun u=>wOf u (fun w=>Ks tb K rs tm hp (fun l=>k (w::l)) sl) sl) sl)
  refine Gc h0 Wt Wh fun u v hr hv hu=>Se h0 hu fun w hw hww=>Gd h0 Wt Wh fun ws hws hwf=>h (w::ws) ?_ (fun x hx=>?_)
  ·simp only [oB,hr,hws,List.map_cons,hw,hv]
  ·rcases List.mem_cons.1 hx with rfl|hx
   ·exact hww
   ·exact hwf x hx
theorem MV {G:Rv→Prop} {sl:Rv} (h0:G sl) {tm:TM} (Wt:WT K tm) {hp:HP} (Wh:hpW hp) {rs:List ResultVar} {k:U→Rv} (h :∀ u,pJ tb (tmL K tm 512) (hpH hp) rs=some u.toV→u.wf→G (k u)):G (Tj tb K rs tm hp k sl):=by
 match rs with
 | []=>exact h (.tup []) rfl (fun w hw=>by cases hw)
 | [r]=>exact Gc h0 Wt Wh fun u v hr hv hu=>h u (by simp only [pJ,oB,hr,hv]) hu
 | r::r2::rs=>
  refine Gd (rs:=r::r2::rs) h0 Wt Wh fun ws hws hwf=>h (.tup ws) ?_ hwf
  have h2:2≤ws.length:=by
   have key :∀ (rs:List ResultVar) (l:List V),oB tb (tmL K tm 512) (hpH hp) rs=some l→l.length=rs.length:=by
    intro rs
    induction rs with
    | nil=>intro l h;simp only [oB,Option.some.injEq] at h;rw [←h];rfl
    | cons r rs ih=>
     intro l h
     simp only [oB] at h
     split at h
     ·split at h
      ·rename_i l' hl'
       cases h
       simp [ih _ hl']
      ·cases h
     ·cases h
   have:=key _ _ hws
   simp at this
   omega
  unfold pJ
  rw [hws]
  match ws,h2 with
  | a::b::ws,_=>rfl
theorem Bw (hT:a6 P tb) (hP:P.follows .mixedOrders=true) (hname :∀ (f:FuncId) (fn:Func),P.funcs[f]?=some fn→(fn.name == "runtime.NumGoroutine")=false) (hcall:CallVOK P call) {f:FuncId} {fn:Func} (hf:P.funcs[f]?=some fn) {args:List U} {hp:HP} {nx:Nat} (Wa :∀ x∈args,x.wf) (Wh:hpW hp) {u:U} {hp':HP} {nx':Nat}
  (h :(zp tb K fn).run call args hp nx = .ok u hp' nx'):FnV P f args hp nx u hp' nx':=by
 unfold zp at h
 cases hc:fn.body with
 | none=>rw [hc] at h;cases h
 | some c=>
  rw [hc] at h
  cases hn:Nat.ble fn.ntmps 512 with
  | false=>rw [hn] at h;cases h
  | true=>
   rw [hn] at h
   cases hl:Nat.ble args.length fn.ntmps with
   | false=>
    have h :(Bool.rec (motive:=fun _=>Rf) (.no [9]) (G5 tb K fn.results.toList (eB nx fun nx=>Cd.run (fE tb fn.ntmps K c) call (je args 0 tm0) hp nx)) (Nat.ble args.length fn.ntmps):Rf) = .ok u hp' nx':=h
    rw [hl] at h;cases h
   | true=>
    have h :(Bool.rec (motive:=fun _=>Rf) (.no [9]) (G5 tb K fn.results.toList (eB nx fun nx=>Cd.run (fE tb fn.ntmps K c) call (je args 0 tm0) hp nx)) (Nat.ble args.length fn.ntmps):Rf) = .ok u hp' nx':=h
    rw [hl] at h
    have h:G5 tb K fn.results.toList (eB nx fun nx=>Cd.run (fE tb fn.ntmps K c) call (je args 0 tm0) hp nx) = .ok u hp' nx':=h
    rw [cV] at h
    have hn:=bm hn
    have hl:=bm hl
    have hget :∀ s,s<512→(cC s).get (je args 0 tm0) =(args[s]?).getD u0:=fun s hs=>by
     rw [vS (by omega) hs]
     by_cases e:0≤s∧s<0+args.length
     ·rw [if_pos e,Nat.sub_zero]
     ·rw [if_neg e,M9,List.getElem?_eq_none (by omega)]
      rfl
    have hwf :∀ s:Nat,((args[s]?).getD u0).wf:=fun s=>by
     cases hx:args[s]? with
     | none=>exact yg
     | some x=>exact Wa x (List.mem_of_getElem? hx)
    have Wt:WT K (je args 0 tm0):=by
     have h2 :∀ i,isK K i=true→((cC i).get (je args 0 tm0)).wf:=fun i hi=>by rw [hget i (tw hi)];exact hwf i
     refine ⟨fun i=>?_,h2⟩
     rw [iC]
     cases hk:isK K i with
     | true=>exact h2 i hk
     | false=>exact yg
    cases hr:Cd.run (fE tb fn.ntmps K c) call (je args 0 tm0) hp nx with
    | no w=>rw [hr] at h;cases h
    | go e1 tm1 hp1 nx1=>
     rw [hr] at h
     have h1:=fH (N:=fn.ntmps) (K:=K) hT hP hcall c _ hp nx e1 tm1 hp1 nx1 Wt Wh hr
     have hret :(∀ id,e1≠ .ext id)∧Ku (MW tb K fn.results.toList tm1 hp1 nx1) = .ok u hp' nx':=by
      cases e1 with
      | nrm=>exact ⟨fun id h=>(by cases h),h⟩
      | ret=>exact ⟨fun id h=>(by cases h),h⟩
      | ext id=>cases h
     obtain ⟨hne,h⟩:=hret
     have h2:pJ tb (tmL K tm1 512) (hpH hp1) fn.results.toList=some u.toV∧u.wf∧hp'=hp1∧nx'=nx1:=by
      revert h
      unfold MW
      refine MV (G:=fun r=>Ku r = .ok u hp' nx'→_) (fun h=>by cases h) h1.wt h1.hw fun u1 hu1 hw1 h=>?_
      have h:Rf.ok ((cC 0).get (uU tm0 0 u1)) hp1 nx1 = .ok u hp' nx':=h
      rw [kq,hJ] at h
      cases h
      exact ⟨hu1,hw1,rfl,rfl⟩
     obtain ⟨hres,huw,rfl,rfl⟩:=h2
     refine ⟨⟨fn,hf,by rw [hc];rfl,hname f fn hf⟩,h1.le,huw,h1.hw,fun B E av hE hH hav hfr=>calls_of_wp hf hc ?_⟩
     have hav_len:=aI hav
     rw [List.length_map] at hav_len
     refine h1.wp B E nx _ E _ hfr (fun E' a hR=>?_) ?_
     ·have hEH:E'.H=hpH hp':=hR.h
      rw [←hEH] at hres
      have htm:eJ E' (find (tmL K tm1 512)) a:=fun s v hv=>by
       rw [yq tm1 s] at hv
       by_cases hk:isK K s=true
       ·rw [if_pos hk] at hv;cases hv;exact hR.tm.tm s hk
       ·rw [if_neg hk] at hv;cases hv
      obtain ⟨v',k1,k2⟩:=oC hR.rel hT htm hres
      have fin :∃ v',(results fn a.tmps).run P E'.w = .ok v' E'.w∧∃ E2 v2,(Ending.returned v') = .returned v2∧Came B E (hpH hp') nx nx' u.toV v2 E'.w E2:=
       ⟨v',k1,E',v',rfl,⟨hR.rel,rfl,hEH,hR.ext,hR.u,k2⟩⟩
      cases e1 with
      | ext id=>exact (hne id rfl).elim
      | nrm=>exact ⟨hR.defers,fin⟩
      | ret=>exact ⟨hR.defers,fin⟩
     ·have hrel :∀ i,isK K i=true→aa E ((cC i).get (je args 0 tm0)).toV ((av.toArray++Array.replicate (fn.ntmps - av.toArray.size) undef).getD i undef):=fun i hi=>by
       rw [hget i (tw hi)]
       cases hx:args[i]? with
       | none=>exact oD
       | some x=>
        obtain ⟨v',q1,q2⟩:=dp hav i x.toV (by rw [List.getElem?_map,hx];rfl)
        have :(av.toArray++Array.replicate (fn.ntmps - av.toArray.size) undef).getD i undef=v':=by
         rw [Array.getD_eq_getD_getElem?]
         have hl:i<av.toArray.size:=by
          rcases Nat.lt_or_ge i av.length with h3|h3
          ·simpa using h3
          ·rw [List.getElem?_eq_none h3] at q1;cases q1
         rw [Array.getElem?_append_left hl]
         simp [q1]
        rw [this]
        exact q2
      refine ⟨hE,Ext.refl E,hH,fun n hn=> .inl hn,Nat.le_refl _,⟨fun i=>?_,hrel⟩,?_,rfl⟩
      ·rw [iC]
       cases hk:isK K i with
       | true=>exact hrel i hk
       | false=>exact oD
      ·simp only [Array.size_append,Array.size_replicate,List.size_toArray];omega
def XOK (P:Program) (X:yp):Prop:=∀ g x,X g=some x→∀ args u,(∀ a∈args,U.wf a)→x args=some u→u.wf∧yn P g args u
theorem Fu {fn:Func} {args:List U} {hp:HP} {nx:Nat} {u:U} {hp':HP} {nx':Nat} (h :(zp tb K fn).run call args hp nx = .ex u hp' nx'):False:=by
 have key :∀ r:Rv,Ku r = .ex u hp' nx'→False:=fun r h=>by cases r <;> cases h
 unfold zp at h
 cases hc:fn.body with
 | none=>rw [hc] at h;cases h
 | some c=>
  rw [hc] at h
  cases hn:Nat.ble fn.ntmps 512 with
  | false=>rw [hn] at h;cases h
  | true=>
   rw [hn] at h
   have h :(Bool.rec (motive:=fun _=>Rf) (.no [9]) (G5 tb K fn.results.toList (eB nx fun nx=>Cd.run (fE tb fn.ntmps K c) call (je args 0 tm0) hp nx)) (Nat.ble args.length fn.ntmps):Rf) = .ex u hp' nx':=h
   cases hl:Nat.ble args.length fn.ntmps with
   | false=>rw [hl] at h;cases h
   | true=>
    rw [hl] at h
    have h:G5 tb K fn.results.toList (eB nx fun nx=>Cd.run (fE tb fn.ntmps K c) call (je args 0 tm0) hp nx) = .ex u hp' nx':=h
    generalize (eB nx fun nx=>Cd.run (fE tb fn.ntmps K c) call (je args 0 tm0) hp nx)=r at h
    cases r with
    | no w=>cases h
    | go e tm hp1 nx1=>
     cases e with
     | ext id=>cases h
     | nrm=>exact key _ h
     | ret=>exact key _ h
theorem A6 (hT:a6 P tb) (hP:P.follows .mixedOrders=true) (hname :∀ (f:FuncId) (fn:Func),P.funcs[f]?=some fn→(fn.name == "runtime.NumGoroutine")=false) {Pf:FuncId→Option Func} (hPf :∀ (f:FuncId) (fn:Func),Pf f=some fn→P.funcs[f]?=some fn) {X:yp} (hX:XOK P X) (KK:FuncId→Nat) :∀ d,CallVOK P (vX tb Pf X KK d)
 | 0=>⟨fun g args hp nx u hp' nx' _ _ h=>(by cases h),fun g args hp nx u hp' nx' _ h=>(by cases h)⟩
 | d+1=>by
  have ih:=A6 hT hP hname hPf hX KK d
  refine ⟨fun g args hp nx u hp' nx' Wa Wh h=>?_,fun g args hp nx u hp' nx' Wa h=>?_⟩
  ·have h:Fc.run (rK tb Pf X KK g) (vX tb Pf X KK d) args hp nx = .ok u hp' nx':=h
   unfold rK at h
   cases hx:X g with
   | some x=>
    rw [hx] at h
    have h:IH (x args) hp nx = .ok u hp' nx':=h
    cases hxa:x args with
    | none=>rw [hxa] at h;cases h
    | some u1=>rw [hxa] at h;cases h
   | none=>
    rw [hx] at h
    have h:Fc.run (Option.rec (motive:=fun _=>Fc) ⟨fun _ _ _ _=> .no [12]⟩ (zp tb (KK g)) (Pf g)) (vX tb Pf X KK d) args hp nx = .ok u hp' nx':=h
    cases hp1:Pf g with
    | none=>rw [hp1] at h;cases h
    | some fn=>
     rw [hp1] at h
     exact Bw hT hP hname ih (hPf _ _ hp1) Wa Wh h
  ·have h:Fc.run (rK tb Pf X KK g) (vX tb Pf X KK d) args hp nx = .ex u hp' nx':=h
   unfold rK at h
   cases hx:X g with
   | some x=>
    rw [hx] at h
    have h:IH (x args) hp nx = .ex u hp' nx':=h
    cases hxa:x args with
    | none=>rw [hxa] at h;cases h
    | some u1=>
     rw [hxa] at h
     cases h
     obtain ⟨h1,h2⟩:=hX g x hx args u Wa hxa
     exact ⟨rfl,rfl,h1,h2⟩
   | none=>
    rw [hx] at h
    have h:Fc.run (Option.rec (motive:=fun _=>Fc) ⟨fun _ _ _ _=> .no [12]⟩ (zp tb (KK g)) (Pf g)) (vX tb Pf X KK d) args hp nx = .ex u hp' nx':=h
    cases hp1:Pf g with
    | none=>rw [hp1] at h;cases h
    | some fn=>rw [hp1] at h;exact (Fu h).elim
noncomputable section
def S2 (b:Bool) (r:Rf):Bool:=Rf.rec (motive:=fun _=>Bool) (fun u _ _=>U.rec (motive:=fun _=>Bool) (fun _ _=>false) (fun c=>Bool.rec (motive:=fun _=>Bool) (iJ c) c b) (fun _ _=>false) (fun _ _ _=>false) (fun _ _ _ _ _=>false) (fun _=>false) (fun _ _=>false) (fun _=>false) u) (fun _ _ _=>false) (fun _=>false) r
end
theorem Dv (hcall:CallVOK P call) {f:FuncId} {Kc:Nat} {b:Bool} (h:S2 b (call f [] hp0 0)=true):CtrOK P Kc f (aK Kc .unit fun _=>⟨[],.bool b,[]⟩):=by
 cases hr:call f [] hp0 0 with
 | no w=>rw [hr] at h;cases h
 | ex u hp' nx'=>rw [hr] at h;cases h
 | ok u hp' nx'=>
  rw [hr] at h
  have hu:u = .kb b:=by
   cases u with
   | kb c=>cases b <;> cases c <;> first|rfl|cases h
   | _=>cases h
  subst hu
  have F:=hcall.ok f [] hp0 0 _ hp' nx' (fun x hx=>by cases hx) I5 hr
  refine ⟨F.fn,fun B E hE args av hav m hm ps' v0 dh hct hps=>?_⟩
  unfold aK at hct
  simp only at hct
  cases args with
  | cons x xs=>simp [cK] at hct
  | nil=>
   have h0:Nat.ble 0 Kc=true:=by cases Kc <;> rfl
   simp only [cK,List.length_nil,h0,cond_true,Option.some.injEq,Prod.mk.injEq] at hct
   obtain ⟨rfl,rfl,rfl⟩:=hct
   cases av with
   | cons x xs=>simp [ab] at hav
   | nil=>
    let E1:Env:=⟨fun _=>False,fun _=>none,E.S,E.w,fun _=>none⟩
    have hE1:HRel (A2 E.w (fun _=>False) E.S hE.glob0) E1:=by
     refine ⟨fun h b hx=>?_,fun b hb=>hE.stab b hb,fun h k b hx=>?_,fun h h' k k' b hx=>?_,fun h k hx=>?_,Keeps.refl _ _,fun h k b hx=>?_,fun _ h=>h,fun _ h=> .inl h⟩ <;> cases hx
    refine (F.calls _ E1 [] hE1 (by rw [Nw]) (by simp [ab]) (fun n _ _ h=>h)).mono fun e w' hh=>?_
    obtain ⟨E',v',rfl,C⟩:=hh
    have hw:=C.w
    subst hw
    obtain ⟨E2,G,_,_⟩:=HW hE hm (S1:=E.S) (fun b hb=>hb) C.rel (acc:= []) ⟨by simp,fun h r hr=>by simp at hr⟩ (Nat.zero_le _) (.inl fun b hb=>hb)
    refine ⟨E2,v',rfl,by simpa [iV,PRes.flat,V.noF] using G,?_⟩
    have hv:=C.v
    simp only [V.shift,aa]
    simpa [U.toV,aa] using hv
end
end Go.Mir
