/- Texts of the mirror and contracts, put together. -/
import Derived.Test.YtffdpnmioidloaaGreatDoorPV6
namespace Go.Mir
open Go.RowKit
noncomputable section
structure N8 (α:Type) where
 a:α
 b:α
 c:α
 d:α
 e:α
 f:α
 g:α
 h:α
structure Ac (σ α:Type) where
 get:σ→α
 put:α→σ→σ
def Ac.da {α:Type}:Ac (N8 α) α:=⟨N8.a,fun x n=>N8.rec (motive:=fun _=>N8 α) (fun _ b c d e f g h=>⟨x,b,c,d,e,f,g,h⟩) n⟩
def Ac.db {α:Type}:Ac (N8 α) α:=⟨N8.b,fun x n=>N8.rec (motive:=fun _=>N8 α) (fun a _ c d e f g h=>⟨a,x,c,d,e,f,g,h⟩) n⟩
def Ac.dc {α:Type}:Ac (N8 α) α:=⟨N8.c,fun x n=>N8.rec (motive:=fun _=>N8 α) (fun a b _ d e f g h=>⟨a,b,x,d,e,f,g,h⟩) n⟩
def Ac.dd {α:Type}:Ac (N8 α) α:=⟨N8.d,fun x n=>N8.rec (motive:=fun _=>N8 α) (fun a b c _ e f g h=>⟨a,b,c,x,e,f,g,h⟩) n⟩
def Ac.de {α:Type}:Ac (N8 α) α:=⟨N8.e,fun x n=>N8.rec (motive:=fun _=>N8 α) (fun a b c d _ f g h=>⟨a,b,c,d,x,f,g,h⟩) n⟩
def Ac.df {α:Type}:Ac (N8 α) α:=⟨N8.f,fun x n=>N8.rec (motive:=fun _=>N8 α) (fun a b c d e _ g h=>⟨a,b,c,d,e,x,g,h⟩) n⟩
def Ac.dg {α:Type}:Ac (N8 α) α:=⟨N8.g,fun x n=>N8.rec (motive:=fun _=>N8 α) (fun a b c d e f _ h=>⟨a,b,c,d,e,f,x,h⟩) n⟩
def Ac.dh {α:Type}:Ac (N8 α) α:=⟨N8.h,fun x n=>N8.rec (motive:=fun _=>N8 α) (fun a b c d e f g _=>⟨a,b,c,d,e,f,g,x⟩) n⟩
def d8 {α:Type} (r:Nat):Ac (N8 α) α:=Bool.rec (motive:=fun _=>Ac (N8 α) α) (Bool.rec (motive:=fun _=>Ac (N8 α) α) (Bool.rec (motive:=fun _=>Ac (N8 α) α) (Bool.rec (motive:=fun _=>Ac (N8 α) α) (Bool.rec (motive:=fun _=>Ac (N8 α) α) (Bool.rec (motive:=fun _=>Ac (N8 α) α) (Bool.rec (motive:=fun _=>Ac (N8 α) α) (Ac.dh) Ac.dg (Nat.beq r 6)) Ac.df (Nat.beq r 5)) Ac.de (Nat.beq r 4)) Ac.dd (Nat.beq r 3)) Ac.dc (Nat.beq r 2)) Ac.db (Nat.beq r 1)) Ac.da (Nat.beq r 0)
def Ac.comp3 {s0 s1 s2 s3:Type} (f1:Ac s0 s1) (f2:Ac s1 s2) (f3:Ac s2 s3):Ac s0 s3:=
 Ac.rec (motive:=fun _=>Ac s0 s3) (fun g1 p1=>Ac.rec (motive:=fun _=>Ac s0 s3) (fun g2 p2=>Ac.rec (motive:=fun _=>Ac s0 s3) (fun g3 p3=>⟨fun s=>(g3 (g2 (g1 s))),fun x s=>(p1 (p2 (p3 x (g2 (g1 s))) (g1 s)) s)⟩) f3) f2) f1
def Ac.comp4 {s0 s1 s2 s3 s4:Type} (f1:Ac s0 s1) (f2:Ac s1 s2) (f3:Ac s2 s3) (f4:Ac s3 s4):Ac s0 s4:=
 Ac.rec (motive:=fun _=>Ac s0 s4) (fun g1 p1=>Ac.rec (motive:=fun _=>Ac s0 s4) (fun g2 p2=>Ac.rec (motive:=fun _=>Ac s0 s4) (fun g3 p3=>Ac.rec (motive:=fun _=>Ac s0 s4) (fun g4 p4=>⟨fun s=>(g4 (g3 (g2 (g1 s)))),fun x s=>(p1 (p2 (p3 (p4 x (g3 (g2 (g1 s)))) (g2 (g1 s))) (g1 s)) s)⟩) f4) f3) f2) f1
def Ac.comp6 {s0 s1 s2 s3 s4 s5 s6:Type} (f1:Ac s0 s1) (f2:Ac s1 s2) (f3:Ac s2 s3) (f4:Ac s3 s4) (f5:Ac s4 s5) (f6:Ac s5 s6):Ac s0 s6:=
 Ac.rec (motive:=fun _=>Ac s0 s6) (fun g1 p1=>Ac.rec (motive:=fun _=>Ac s0 s6) (fun g2 p2=>Ac.rec (motive:=fun _=>Ac s0 s6) (fun g3 p3=>Ac.rec (motive:=fun _=>Ac s0 s6) (fun g4 p4=>Ac.rec (motive:=fun _=>Ac s0 s6) (fun g5 p5=>Ac.rec (motive:=fun _=>Ac s0 s6) (fun g6 p6=>⟨fun s=>(g6 (g5 (g4 (g3 (g2 (g1 s)))))),fun x s=>(p1 (p2 (p3 (p4 (p5 (p6 x (g5 (g4 (g3 (g2 (g1 s)))))) (g4 (g3 (g2 (g1 s))))) (g3 (g2 (g1 s)))) (g2 (g1 s))) (g1 s)) s)⟩) f6) f5) f4) f3) f2) f1
def dig (i k:Nat):Nat:=Nat.mod (Nat.div i k) 8
abbrev T3 (α:Type):=N8 (N8 (N8 α))
abbrev T4 (α:Type):=N8 (T3 α)
abbrev T6 (α:Type):=N8 (N8 (T4 α))
def cq {α:Type} (i:Nat):Ac (T3 α) α:=Ac.comp3 (d8 (dig i 64)) (d8 (dig i 8)) (d8 (dig i 1))
def tA {α:Type} (i:Nat):Ac (T4 α) α:=Ac.comp4 (d8 (dig i 512)) (d8 (dig i 64)) (d8 (dig i 8)) (d8 (dig i 1))
def wA {α:Type} (i:Nat):Ac (T6 α) α:=Ac.comp6 (d8 (dig i 32768)) (d8 (dig i 4096)) (d8 (dig i 512)) (d8 (dig i 64)) (d8 (dig i 8)) (d8 (dig i 1))
def C6 {α:Type} (x:α):N8 α:=⟨x,x,x,x,x,x,x,x⟩
def Gp {α:Type} (x:α):T3 α:=C6 (C6 (C6 x))
def PE {α:Type} (x:α):T4 α:=C6 (Gp x)
def Ms {α:Type} (x:α):T6 α:=C6 (C6 (PE x))
structure Ac.Law {σ α:Type} (f:Ac σ α):Prop where
 same :∀ x s,f.get (f.put x s)=x
structure Ac.Apart {σ α:Type} (f g:Ac σ α):Prop where
 l :∀ x s,g.get (f.put x s)=g.get s
theorem aK {α:Type} (r:Nat) :(d8 r:Ac (N8 α) α).Law:=by
 constructor
 intro x s
 unfold d8
 cases Nat.beq r 0
 case true=>rfl
 cases Nat.beq r 1
 case true=>rfl
 cases Nat.beq r 2
 case true=>rfl
 cases Nat.beq r 3
 case true=>rfl
 cases Nat.beq r 4
 case true=>rfl
 cases Nat.beq r 5
 case true=>rfl
 cases Nat.beq r 6
 case true=>rfl
 rfl
theorem cw {α:Type} :∀ {r s:Nat},r<8→s<8→r≠s→(d8 r:Ac (N8 α) α).Apart (d8 s):=by
 intro r s hr hs h
 constructor
 intro x n
 match r,s,hr,hs,h with
 | 0,0,_,_,h=>exact absurd rfl h
 | 0,1,_,_,h=>rfl
 | 0,2,_,_,h=>rfl
 | 0,3,_,_,h=>rfl
 | 0,4,_,_,h=>rfl
 | 0,5,_,_,h=>rfl
 | 0,6,_,_,h=>rfl
 | 0,7,_,_,h=>rfl
 | 1,0,_,_,h=>rfl
 | 1,1,_,_,h=>exact absurd rfl h
 | 1,2,_,_,h=>rfl
 | 1,3,_,_,h=>rfl
 | 1,4,_,_,h=>rfl
 | 1,5,_,_,h=>rfl
 | 1,6,_,_,h=>rfl
 | 1,7,_,_,h=>rfl
 | 2,0,_,_,h=>rfl
 | 2,1,_,_,h=>rfl
 | 2,2,_,_,h=>exact absurd rfl h
 | 2,3,_,_,h=>rfl
 | 2,4,_,_,h=>rfl
 | 2,5,_,_,h=>rfl
 | 2,6,_,_,h=>rfl
 | 2,7,_,_,h=>rfl
 | 3,0,_,_,h=>rfl
 | 3,1,_,_,h=>rfl
 | 3,2,_,_,h=>rfl
 | 3,3,_,_,h=>exact absurd rfl h
 | 3,4,_,_,h=>rfl
 | 3,5,_,_,h=>rfl
 | 3,6,_,_,h=>rfl
 | 3,7,_,_,h=>rfl
 | 4,0,_,_,h=>rfl
 | 4,1,_,_,h=>rfl
 | 4,2,_,_,h=>rfl
 | 4,3,_,_,h=>rfl
 | 4,4,_,_,h=>exact absurd rfl h
 | 4,5,_,_,h=>rfl
 | 4,6,_,_,h=>rfl
 | 4,7,_,_,h=>rfl
 | 5,0,_,_,h=>rfl
 | 5,1,_,_,h=>rfl
 | 5,2,_,_,h=>rfl
 | 5,3,_,_,h=>rfl
 | 5,4,_,_,h=>rfl
 | 5,5,_,_,h=>exact absurd rfl h
 | 5,6,_,_,h=>rfl
 | 5,7,_,_,h=>rfl
 | 6,0,_,_,h=>rfl
 | 6,1,_,_,h=>rfl
 | 6,2,_,_,h=>rfl
 | 6,3,_,_,h=>rfl
 | 6,4,_,_,h=>rfl
 | 6,5,_,_,h=>rfl
 | 6,6,_,_,h=>exact absurd rfl h
 | 6,7,_,_,h=>rfl
 | 7,0,_,_,h=>rfl
 | 7,1,_,_,h=>rfl
 | 7,2,_,_,h=>rfl
 | 7,3,_,_,h=>rfl
 | 7,4,_,_,h=>rfl
 | 7,5,_,_,h=>rfl
 | 7,6,_,_,h=>rfl
 | 7,7,_,_,h=>exact absurd rfl h
theorem Fw {s0 s1 s2 s3:Type} {f1:Ac s0 s1} {f2:Ac s1 s2} {f3:Ac s2 s3} (h1:f1.Law) (h2:f2.Law) (h3:f3.Law) :(Ac.comp3 f1 f2 f3).Law:=by
 constructor
 intro x s
 show f3.get (f2.get (f1.get ((Ac.comp3 f1 f2 f3).put x s)))=x
 show f3.get (f2.get (f1.get ((f1.put (f2.put (f3.put x (f2.get (f1.get s))) (f1.get s)) s))))=x
 rw [h1.same,h2.same,h3.same]
theorem wI {s0 s1 s2 s3:Type} {f1:Ac s0 s1} {f2:Ac s1 s2} {f3:Ac s2 s3} {g1:Ac s0 s1} {g2:Ac s1 s2} {g3:Ac s2 s3} (h:f1.Apart g1) :(Ac.comp3 f1 f2 f3).Apart (Ac.comp3 g1 g2 g3):=by
 constructor
 intro x s
 show g3.get (g2.get (g1.get ((f1.put (f2.put (f3.put x (f2.get (f1.get s))) (f1.get s)) s))))=g3.get (g2.get (g1.get (s)))
 rw [h.l]
theorem wJ {s0 s1 s2 s3:Type} {f1:Ac s0 s1} {f2:Ac s1 s2} {f3:Ac s2 s3} {g2:Ac s1 s2} {g3:Ac s2 s3} (h1:f1.Law) (h:f2.Apart g2) :(Ac.comp3 f1 f2 f3).Apart (Ac.comp3 f1 g2 g3):=by
 constructor
 intro x s
 show g3.get (g2.get (f1.get ((f1.put (f2.put (f3.put x (f2.get (f1.get s))) (f1.get s)) s))))=g3.get (g2.get (f1.get (s)))
 rw [h1.same,h.l]
theorem wK {s0 s1 s2 s3:Type} {f1:Ac s0 s1} {f2:Ac s1 s2} {f3:Ac s2 s3} {g3:Ac s2 s3} (h1:f1.Law) (h2:f2.Law) (h:f3.Apart g3) :(Ac.comp3 f1 f2 f3).Apart (Ac.comp3 f1 f2 g3):=by
 constructor
 intro x s
 show g3.get (f2.get (f1.get ((f1.put (f2.put (f3.put x (f2.get (f1.get s))) (f1.get s)) s))))=g3.get (f2.get (f1.get (s)))
 rw [h1.same,h2.same,h.l]
theorem Fx {s0 s1 s2 s3 s4:Type} {f1:Ac s0 s1} {f2:Ac s1 s2} {f3:Ac s2 s3} {f4:Ac s3 s4} (h1:f1.Law) (h2:f2.Law) (h3:f3.Law) (h4:f4.Law) :(Ac.comp4 f1 f2 f3 f4).Law:=by
 constructor
 intro x s
 show f4.get (f3.get (f2.get (f1.get ((Ac.comp4 f1 f2 f3 f4).put x s))))=x
 show f4.get (f3.get (f2.get (f1.get ((f1.put (f2.put (f3.put (f4.put x (f3.get (f2.get (f1.get s)))) (f2.get (f1.get s))) (f1.get s)) s)))))=x
 rw [h1.same,h2.same,h3.same,h4.same]
theorem wL {s0 s1 s2 s3 s4:Type} {f1:Ac s0 s1} {f2:Ac s1 s2} {f3:Ac s2 s3} {f4:Ac s3 s4} {g1:Ac s0 s1} {g2:Ac s1 s2} {g3:Ac s2 s3} {g4:Ac s3 s4} (h:f1.Apart g1) :(Ac.comp4 f1 f2 f3 f4).Apart (Ac.comp4 g1 g2 g3 g4):=by
 constructor
 intro x s
 show g4.get (g3.get (g2.get (g1.get ((f1.put (f2.put (f3.put (f4.put x (f3.get (f2.get (f1.get s)))) (f2.get (f1.get s))) (f1.get s)) s)))))=g4.get (g3.get (g2.get (g1.get (s))))
 rw [h.l]
theorem wM {s0 s1 s2 s3 s4:Type} {f1:Ac s0 s1} {f2:Ac s1 s2} {f3:Ac s2 s3} {f4:Ac s3 s4} {g2:Ac s1 s2} {g3:Ac s2 s3} {g4:Ac s3 s4} (h1:f1.Law) (h:f2.Apart g2) :(Ac.comp4 f1 f2 f3 f4).Apart (Ac.comp4 f1 g2 g3 g4):=by
 constructor
 intro x s
 show g4.get (g3.get (g2.get (f1.get ((f1.put (f2.put (f3.put (f4.put x (f3.get (f2.get (f1.get s)))) (f2.get (f1.get s))) (f1.get s)) s)))))=g4.get (g3.get (g2.get (f1.get (s))))
 rw [h1.same,h.l]
theorem wN {s0 s1 s2 s3 s4:Type} {f1:Ac s0 s1} {f2:Ac s1 s2} {f3:Ac s2 s3} {f4:Ac s3 s4} {g3:Ac s2 s3} {g4:Ac s3 s4} (h1:f1.Law) (h2:f2.Law) (h:f3.Apart g3) :(Ac.comp4 f1 f2 f3 f4).Apart (Ac.comp4 f1 f2 g3 g4):=by
 constructor
 intro x s
 show g4.get (g3.get (f2.get (f1.get ((f1.put (f2.put (f3.put (f4.put x (f3.get (f2.get (f1.get s)))) (f2.get (f1.get s))) (f1.get s)) s)))))=g4.get (g3.get (f2.get (f1.get (s))))
 rw [h1.same,h2.same,h.l]
theorem wO {s0 s1 s2 s3 s4:Type} {f1:Ac s0 s1} {f2:Ac s1 s2} {f3:Ac s2 s3} {f4:Ac s3 s4} {g4:Ac s3 s4} (h1:f1.Law) (h2:f2.Law) (h3:f3.Law) (h:f4.Apart g4) :(Ac.comp4 f1 f2 f3 f4).Apart (Ac.comp4 f1 f2 f3 g4):=by
 constructor
 intro x s
 show g4.get (f3.get (f2.get (f1.get ((f1.put (f2.put (f3.put (f4.put x (f3.get (f2.get (f1.get s)))) (f2.get (f1.get s))) (f1.get s)) s)))))=g4.get (f3.get (f2.get (f1.get (s))))
 rw [h1.same,h2.same,h3.same,h.l]
theorem Fy {s0 s1 s2 s3 s4 s5 s6:Type} {f1:Ac s0 s1} {f2:Ac s1 s2} {f3:Ac s2 s3} {f4:Ac s3 s4} {f5:Ac s4 s5} {f6:Ac s5 s6} (h1:f1.Law) (h2:f2.Law) (h3:f3.Law) (h4:f4.Law) (h5:f5.Law) (h6:f6.Law) :(Ac.comp6 f1 f2 f3 f4 f5 f6).Law:=by
 constructor
 intro x s
 show f6.get (f5.get (f4.get (f3.get (f2.get (f1.get ((Ac.comp6 f1 f2 f3 f4 f5 f6).put x s))))))=x
 show f6.get (f5.get (f4.get (f3.get (f2.get (f1.get ((f1.put (f2.put (f3.put (f4.put (f5.put (f6.put x (f5.get (f4.get (f3.get (f2.get (f1.get s)))))) (f4.get (f3.get (f2.get (f1.get s))))) (f3.get (f2.get (f1.get s)))) (f2.get (f1.get s))) (f1.get s)) s)))))))=x
 rw [h1.same,h2.same,h3.same,h4.same,h5.same,h6.same]
theorem wP {s0 s1 s2 s3 s4 s5 s6:Type} {f1:Ac s0 s1} {f2:Ac s1 s2} {f3:Ac s2 s3} {f4:Ac s3 s4} {f5:Ac s4 s5} {f6:Ac s5 s6} {g1:Ac s0 s1} {g2:Ac s1 s2} {g3:Ac s2 s3} {g4:Ac s3 s4} {g5:Ac s4 s5} {g6:Ac s5 s6} (h:f1.Apart g1) :(Ac.comp6 f1 f2 f3 f4 f5 f6).Apart (Ac.comp6 g1 g2 g3 g4 g5 g6):=by
 constructor
 intro x s
 show g6.get (g5.get (g4.get (g3.get (g2.get (g1.get ((f1.put (f2.put (f3.put (f4.put (f5.put (f6.put x (f5.get (f4.get (f3.get (f2.get (f1.get s)))))) (f4.get (f3.get (f2.get (f1.get s))))) (f3.get (f2.get (f1.get s)))) (f2.get (f1.get s))) (f1.get s)) s)))))))=g6.get (g5.get (g4.get (g3.get (g2.get (g1.get (s))))))
 rw [h.l]
theorem wQ {s0 s1 s2 s3 s4 s5 s6:Type} {f1:Ac s0 s1} {f2:Ac s1 s2} {f3:Ac s2 s3} {f4:Ac s3 s4} {f5:Ac s4 s5} {f6:Ac s5 s6} {g2:Ac s1 s2} {g3:Ac s2 s3} {g4:Ac s3 s4} {g5:Ac s4 s5} {g6:Ac s5 s6} (h1:f1.Law) (h:f2.Apart g2) :(Ac.comp6 f1 f2 f3 f4 f5 f6).Apart (Ac.comp6 f1 g2 g3 g4 g5 g6):=by
 constructor
 intro x s
 show g6.get (g5.get (g4.get (g3.get (g2.get (f1.get ((f1.put (f2.put (f3.put (f4.put (f5.put (f6.put x (f5.get (f4.get (f3.get (f2.get (f1.get s)))))) (f4.get (f3.get (f2.get (f1.get s))))) (f3.get (f2.get (f1.get s)))) (f2.get (f1.get s))) (f1.get s)) s)))))))=g6.get (g5.get (g4.get (g3.get (g2.get (f1.get (s))))))
 rw [h1.same,h.l]
theorem wR {s0 s1 s2 s3 s4 s5 s6:Type} {f1:Ac s0 s1} {f2:Ac s1 s2} {f3:Ac s2 s3} {f4:Ac s3 s4} {f5:Ac s4 s5} {f6:Ac s5 s6} {g3:Ac s2 s3} {g4:Ac s3 s4} {g5:Ac s4 s5} {g6:Ac s5 s6} (h1:f1.Law) (h2:f2.Law) (h:f3.Apart g3) :(Ac.comp6 f1 f2 f3 f4 f5 f6).Apart (Ac.comp6 f1 f2 g3 g4 g5 g6):=by
 constructor
 intro x s
 show g6.get (g5.get (g4.get (g3.get (f2.get (f1.get ((f1.put (f2.put (f3.put (f4.put (f5.put (f6.put x (f5.get (f4.get (f3.get (f2.get (f1.get s)))))) (f4.get (f3.get (f2.get (f1.get s))))) (f3.get (f2.get (f1.get s)))) (f2.get (f1.get s))) (f1.get s)) s)))))))=g6.get (g5.get (g4.get (g3.get (f2.get (f1.get (s))))))
 rw [h1.same,h2.same,h.l]
theorem wS {s0 s1 s2 s3 s4 s5 s6:Type} {f1:Ac s0 s1} {f2:Ac s1 s2} {f3:Ac s2 s3} {f4:Ac s3 s4} {f5:Ac s4 s5} {f6:Ac s5 s6} {g4:Ac s3 s4} {g5:Ac s4 s5} {g6:Ac s5 s6} (h1:f1.Law) (h2:f2.Law) (h3:f3.Law) (h:f4.Apart g4) :(Ac.comp6 f1 f2 f3 f4 f5 f6).Apart (Ac.comp6 f1 f2 f3 g4 g5 g6):=by
 constructor
 intro x s
 show g6.get (g5.get (g4.get (f3.get (f2.get (f1.get ((f1.put (f2.put (f3.put (f4.put (f5.put (f6.put x (f5.get (f4.get (f3.get (f2.get (f1.get s)))))) (f4.get (f3.get (f2.get (f1.get s))))) (f3.get (f2.get (f1.get s)))) (f2.get (f1.get s))) (f1.get s)) s)))))))=g6.get (g5.get (g4.get (f3.get (f2.get (f1.get (s))))))
 rw [h1.same,h2.same,h3.same,h.l]
theorem wT {s0 s1 s2 s3 s4 s5 s6:Type} {f1:Ac s0 s1} {f2:Ac s1 s2} {f3:Ac s2 s3} {f4:Ac s3 s4} {f5:Ac s4 s5} {f6:Ac s5 s6} {g5:Ac s4 s5} {g6:Ac s5 s6} (h1:f1.Law) (h2:f2.Law) (h3:f3.Law) (h4:f4.Law) (h:f5.Apart g5) :(Ac.comp6 f1 f2 f3 f4 f5 f6).Apart (Ac.comp6 f1 f2 f3 f4 g5 g6):=by
 constructor
 intro x s
 show g6.get (g5.get (f4.get (f3.get (f2.get (f1.get ((f1.put (f2.put (f3.put (f4.put (f5.put (f6.put x (f5.get (f4.get (f3.get (f2.get (f1.get s)))))) (f4.get (f3.get (f2.get (f1.get s))))) (f3.get (f2.get (f1.get s)))) (f2.get (f1.get s))) (f1.get s)) s)))))))=g6.get (g5.get (f4.get (f3.get (f2.get (f1.get (s))))))
 rw [h1.same,h2.same,h3.same,h4.same,h.l]
theorem wV {s0 s1 s2 s3 s4 s5 s6:Type} {f1:Ac s0 s1} {f2:Ac s1 s2} {f3:Ac s2 s3} {f4:Ac s3 s4} {f5:Ac s4 s5} {f6:Ac s5 s6} {g6:Ac s5 s6} (h1:f1.Law) (h2:f2.Law) (h3:f3.Law) (h4:f4.Law) (h5:f5.Law) (h:f6.Apart g6) :(Ac.comp6 f1 f2 f3 f4 f5 f6).Apart (Ac.comp6 f1 f2 f3 f4 f5 g6):=by
 constructor
 intro x s
 show g6.get (f5.get (f4.get (f3.get (f2.get (f1.get ((f1.put (f2.put (f3.put (f4.put (f5.put (f6.put x (f5.get (f4.get (f3.get (f2.get (f1.get s)))))) (f4.get (f3.get (f2.get (f1.get s))))) (f3.get (f2.get (f1.get s)))) (f2.get (f1.get s))) (f1.get s)) s)))))))=g6.get (f5.get (f4.get (f3.get (f2.get (f1.get (s))))))
 rw [h1.same,h2.same,h3.same,h4.same,h5.same,h.l]
theorem gM {α:Type} (i:Nat) (x:α) (s:T3 α) :(cq i).get ((cq i).put x s)=x:=(Fw (aK _) (aK _) (aK _)).same x s
theorem DH {α:Type} {i j:Nat} (hi:i<512) (hj:j<512) (h:i≠j) (x:α) (s:T3 α) :(cq j).get ((cq i).put x s) =(cq j).get s:=by
 unfold cq
 by_cases e1:dig i 64=dig j 64
 case neg=>exact (wI (cw (Nat.mod_lt _ (by decide)) (Nat.mod_lt _ (by decide)) e1)).l x s
 by_cases e2:dig i 8=dig j 8
 case neg=>rw [←e1];exact (wJ (aK _) (cw (Nat.mod_lt _ (by decide)) (Nat.mod_lt _ (by decide)) e2)).l x s
 by_cases e3:dig i 1=dig j 1
 case neg=>rw [←e1,←e2];exact (wK (aK _) (aK _) (cw (Nat.mod_lt _ (by decide)) (Nat.mod_lt _ (by decide)) e3)).l x s
 exfalso
 have q1:i / 64 % 8=j / 64 % 8:=e1
 have q2:i / 8 % 8=j / 8 % 8:=e2
 have q3:i / 1 % 8=j / 1 % 8:=e3
 omega
theorem Fh {α:Type} (i:Nat) (x:α) (s:T4 α) :(tA i).get ((tA i).put x s)=x:=(Fx (aK _) (aK _) (aK _) (aK _)).same x s
theorem KS {α:Type} {i j:Nat} (hi:i<4096) (hj:j<4096) (h:i≠j) (x:α) (s:T4 α) :(tA j).get ((tA i).put x s) =(tA j).get s:=by
 unfold tA
 by_cases e1:dig i 512=dig j 512
 case neg=>exact (wL (cw (Nat.mod_lt _ (by decide)) (Nat.mod_lt _ (by decide)) e1)).l x s
 by_cases e2:dig i 64=dig j 64
 case neg=>rw [←e1];exact (wM (aK _) (cw (Nat.mod_lt _ (by decide)) (Nat.mod_lt _ (by decide)) e2)).l x s
 by_cases e3:dig i 8=dig j 8
 case neg=>rw [←e1,←e2];exact (wN (aK _) (aK _) (cw (Nat.mod_lt _ (by decide)) (Nat.mod_lt _ (by decide)) e3)).l x s
 by_cases e4:dig i 1=dig j 1
 case neg=>rw [←e1,←e2,←e3];exact (wO (aK _) (aK _) (aK _) (cw (Nat.mod_lt _ (by decide)) (Nat.mod_lt _ (by decide)) e4)).l x s
 exfalso
 have q1:i / 512 % 8=j / 512 % 8:=e1
 have q2:i / 64 % 8=j / 64 % 8:=e2
 have q3:i / 8 % 8=j / 8 % 8:=e3
 have q4:i / 1 % 8=j / 1 % 8:=e4
 omega
theorem Fi {α:Type} (i:Nat) (x:α) (s:T6 α) :(wA i).get ((wA i).put x s)=x:=(Fy (aK _) (aK _) (aK _) (aK _) (aK _) (aK _)).same x s
theorem KT {α:Type} {i j:Nat} (hi:i<262144) (hj:j<262144) (h:i≠j) (x:α) (s:T6 α) :(wA j).get ((wA i).put x s) =(wA j).get s:=by
 unfold wA
 by_cases e1:dig i 32768=dig j 32768
 case neg=>exact (wP (cw (Nat.mod_lt _ (by decide)) (Nat.mod_lt _ (by decide)) e1)).l x s
 by_cases e2:dig i 4096=dig j 4096
 case neg=>rw [←e1];exact (wQ (aK _) (cw (Nat.mod_lt _ (by decide)) (Nat.mod_lt _ (by decide)) e2)).l x s
 by_cases e3:dig i 512=dig j 512
 case neg=>rw [←e1,←e2];exact (wR (aK _) (aK _) (cw (Nat.mod_lt _ (by decide)) (Nat.mod_lt _ (by decide)) e3)).l x s
 by_cases e4:dig i 64=dig j 64
 case neg=>rw [←e1,←e2,←e3];exact (wS (aK _) (aK _) (aK _) (cw (Nat.mod_lt _ (by decide)) (Nat.mod_lt _ (by decide)) e4)).l x s
 by_cases e5:dig i 8=dig j 8
 case neg=>rw [←e1,←e2,←e3,←e4];exact (wT (aK _) (aK _) (aK _) (aK _) (cw (Nat.mod_lt _ (by decide)) (Nat.mod_lt _ (by decide)) e5)).l x s
 by_cases e6:dig i 1=dig j 1
 case neg=>rw [←e1,←e2,←e3,←e4,←e5];exact (wV (aK _) (aK _) (aK _) (aK _) (aK _) (cw (Nat.mod_lt _ (by decide)) (Nat.mod_lt _ (by decide)) e6)).l x s
 exfalso
 have q1:i / 32768 % 8=j / 32768 % 8:=e1
 have q2:i / 4096 % 8=j / 4096 % 8:=e2
 have q3:i / 512 % 8=j / 512 % 8:=e3
 have q4:i / 64 % 8=j / 64 % 8:=e4
 have q5:i / 8 % 8=j / 8 % 8:=e5
 have q6:i / 1 % 8=j / 1 % 8:=e6
 omega
theorem jV {α:Type} (r:Nat) (x:α) :(d8 r:Ac (N8 α) α).get (C6 x)=x:=by
 unfold d8
 cases Nat.beq r 0
 case true=>rfl
 cases Nat.beq r 1
 case true=>rfl
 cases Nat.beq r 2
 case true=>rfl
 cases Nat.beq r 3
 case true=>rfl
 cases Nat.beq r 4
 case true=>rfl
 cases Nat.beq r 5
 case true=>rfl
 cases Nat.beq r 6
 case true=>rfl
 rfl
theorem GW {α:Type} (i:Nat) (x:α) :(cq i).get (Gp x)=x:=by
 show (d8 _).get ((d8 _).get ((d8 _).get (Gp x)))=x
 unfold Gp
 rw [jV,jV,jV]
theorem GX {α:Type} (i:Nat) (x:α) :(wA i).get (Ms x)=x:=by
 show (d8 _).get ((d8 _).get ((d8 _).get ((d8 _).get ((d8 _).get ((d8 _).get (Ms x))))))=x
 unfold Ms PE Gp
 rw [jV,jV,jV,jV,jV,jV]
end
end Go.Mir
namespace Go.Mir
open Go.RowKit
noncomputable section
inductive C where
 | int (k:IntKind) (n:Int)
 | kb (b:Bool)
 | ptr (h o:Nat)
 | gp (h v o:Nat)
 | gsl (h v e o l:Nat)
 | oth (v:V)
abbrev CT:=T4 C
inductive W where
 | c (x:C)
 | agg (t:CT) (n:Nat)
inductive U where
 | int (k:IntKind) (n:Int)
 | kb (b:Bool)
 | ptr (h o:Nat)
 | gp (h v o:Nat)
 | gsl (h v e o l:Nat)
 | oth (v:V)
 | agg (t:CT) (n:Nat)
 | tup (l:List W)
inductive Bk where
 | none
 | cells (t:CT) (n:Nat)
 | grow (ver esz:Nat) (t:CT) (n:Nat)
 | mp (es:List (V×V))
abbrev TM:=T3 U
abbrev HP:=T6 Bk
def tm0:TM:=Gp (.oth .any)
def hp0:HP:=Ms .none
def ct0:CT:=PE (.oth .any)
inductive Rv where
 | go (e:Lf) (tm:TM) (hp:HP) (nx:Nat)
 | no (w:List Nat)
inductive Rf where
 | ok (u:U) (hp:HP) (nx:Nat)
 | ex (u:U) (hp:HP) (nx:Nat)
 | no (w:List Nat)
abbrev KR:=TM→HP→Nat→Rv
abbrev eD:=FuncId→List U→HP→Nat→Rf
def C.toV:C→V
 | .int k n=> .int k n
 | .kb b=> .kb b
 | .ptr h o=> .ptr h o
 | .gp h v o=> .gp h v o
 | .gsl h v e o l=> .gsl h v e o l
 | .oth v=>v
def bZ (t:CT) (i:Nat):C:=Ac.rec (motive:=fun _=>CT→C) (fun g _=>g) (tA i) t
def dD (t:CT) (i:Nat) (x:C):CT:=Ac.rec (motive:=fun _=>C→CT→CT) (fun _ p=>p) (tA i) x t
def LM:Nat:=4096
def LL:Nat:=262144
def yH (h:Nat):Ac HP Bk:=Bool.rec (motive:=fun _=>Ac HP Bk) ⟨fun _=> .none,fun _ s=>s⟩ (wA h) (Nat.ble (Nat.succ h) 262144)
def aP (hp:HP) (h:Nat):Bk:=Ac.rec (motive:=fun _=>HP→Bk) (fun g _=>g) (yH h) hp
def cS (hp:HP) (h:Nat) (b:Bk):HP:=Ac.rec (motive:=fun _=>Bk→HP→HP) (fun _ p=>p) (yH h) b hp
def tp (t:CT):Nat→Nat→List V
 | 0,_=> []
 | n+1,i=>(bZ t i).toV::tp t n (i+1)
def toL (t:CT) (n:Nat):List V:=tp t n 0
def Fs (v:V):C:=match v with
 | .int k n=> .int k n
 | .kb b=> .kb b
 | .ptr h o=> .ptr h o
 | .gp h v o=> .gp h v o
 | .gsl h v e o l=> .gsl h v e o l
 | v=> .oth v
def Pg:List V→Nat→CT→CT:=List.rec (motive:=fun _=>Nat→CT→CT) (fun _ t=>t) (fun v _ ih i t=>ih (Nat.succ i) (dD t i (Fs v)))
def ofL (l:List V):CT:=Pg l 0 ct0
def W.toV:W→V
 | .c x=>x.toV
 | .agg t n=> .agg (toL t n)
def U.toV:U→V
 | .int k n=> .int k n
 | .kb b=> .kb b
 | .ptr h o=> .ptr h o
 | .gp h v o=> .gp h v o
 | .gsl h v e o l=> .gsl h v e o l
 | .oth v=>v
 | .agg t n=> .agg (toL t n)
 | .tup l=> .tup (l.map W.toV)
def Bk.toB:Bk→Option Blk
 | .none=>Option.none
 | .cells t n=>some (.cells (toL t n))
 | .grow v e t n=>some (.grow v e (toL t n))
 | .mp es=>some (.mp es)
def V.isOne (v:V):Bool:=
 V.rec (motive_1:=fun _=>Bool) (motive_2:=fun _=>Unit) false (fun _ _=>true) (fun _=>true) (fun _=>true) (fun q p=>false) (fun _=>true) true (fun _ _=>true) (fun _ _ _ _=>true) (fun _ _ _ _=>true) true true (fun _ _=>true) (fun _ _=>true) (fun _ _ _ _ _=>true) (fun _ _ _=>true) (fun _=>true) (fun _ _=>true) true true (fun _ _ _=>true) (fun cs ih=>false) (fun cs ih=>false) () (fun _ _ _ _=>()) v
def BP (l:List V):Bool:=List.rec (motive:=fun _=>Bool) true (fun v _ ih=>Bool.rec false ih v.isOne) l
def fZ (l:List V):Bool:=Bool.rec false (Nat.ble l.length LM) (BP l)
def jQ (v:V):U:=match v with
 | .int k n=> .int k n
 | .kb b=> .kb b
 | .bool b=> .kb b
 | .ptr h o=> .ptr h o
 | .gp h v o=> .gp h v o
 | .gsl h v e o l=> .gsl h v e o l
 | .agg cs=>Bool.rec (.oth .any) (.agg (ofL cs) cs.length) (fZ cs)
 | .tup vs=> .tup (vs.map fun v=>match v with
  | .agg cs=>Bool.rec (.c (.oth .any)) (.agg (ofL cs) cs.length) (fZ cs)
  | .bool b=> .c (.kb b)
  | v=> .c (Fs v))
 | v=> .oth v
def cU:C→U:=C.rec (motive:=fun _=>U) .int .kb .ptr .gp .gsl .oth
def wU:W→U:=W.rec (motive:=fun _=>U) cU .agg
def BD:U→(IntKind→Int→Rv)→Rv→Rv:=U.rec (motive:=fun _=>(IntKind→Int→Rv)→Rv→Rv) (fun k n f sl=>f k n) (fun _ _ sl=>sl) (fun _ _ _ sl=>sl) (fun _ _ _ _ sl=>sl) (fun _ _ _ _ _ _ sl=>sl) (fun _ _ sl=>sl) (fun _ _ _ sl=>sl) (fun _ _ sl=>sl)
def uKb:U→(Bool→Rv)→Rv→Rv:=U.rec (motive:=fun _=>(Bool→Rv)→Rv→Rv) (fun _ _ _ sl=>sl) (fun b f sl=>f b) (fun _ _ _ sl=>sl) (fun _ _ _ _ sl=>sl) (fun _ _ _ _ _ _ sl=>sl) (fun _ _ sl=>sl) (fun _ _ _ sl=>sl) (fun _ _ sl=>sl)
def DC:U→(Nat→Nat→Rv)→(Nat→Nat→Nat→Rv)→Rv→Rv:=U.rec (motive:=fun _=>(Nat→Nat→Rv)→(Nat→Nat→Nat→Rv)→Rv→Rv) (fun _ _ _ _ sl=>sl) (fun _ _ _ sl=>sl) (fun h o f g sl=>f h o) (fun h v o f g sl=>g h v o) (fun _ _ _ _ _ _ _ sl=>sl) (fun _ _ _ sl=>sl) (fun _ _ _ _ sl=>sl) (fun _ _ _ sl=>sl)
def Ql:U→(Nat→Nat→Nat→Nat→Nat→Rv)→Rv→Rv:=U.rec (motive:=fun _=>(Nat→Nat→Nat→Nat→Nat→Rv)→Rv→Rv) (fun _ _ _ sl=>sl) (fun _ _ sl=>sl) (fun _ _ _ sl=>sl) (fun _ _ _ _ sl=>sl) (fun h v e o l f sl=>f h v e o l) (fun _ _ sl=>sl) (fun _ _ _ sl=>sl) (fun _ _ sl=>sl)
def SF (v:V) (a b sl:Rv):Rv:=match v with
 | .nilsl=>a
 | .esl=>b
 | _=>sl
def uSl:U→Rv→Rv→(Nat→Nat→Nat→Nat→Nat→Rv)→Rv→Rv:=U.rec (motive:=fun _=>Rv→Rv→(Nat→Nat→Nat→Nat→Nat→Rv)→Rv→Rv) (fun _ _ _ _ _ sl=>sl) (fun _ _ _ _ sl=>sl) (fun _ _ _ _ _ sl=>sl) (fun _ _ _ _ _ _ sl=>sl) (fun h v e o l a b f sl=>f h v e o l) (fun v a b f sl=>SF v a b sl) (fun _ _ _ _ _ sl=>sl) (fun _ _ _ _ sl=>sl)
def vFn (v:V) (k:FuncId→List V→Rv) (sl:Rv):Rv:=match v with
 | .fn f cs=>k f cs
 | _=>sl
def uFn:U→(FuncId→List V→Rv)→Rv→Rv:=U.rec (motive:=fun _=>(FuncId→List V→Rv)→Rv→Rv) (fun _ _ _ sl=>sl) (fun _ _ sl=>sl) (fun _ _ _ sl=>sl) (fun _ _ _ _ sl=>sl) (fun _ _ _ _ _ _ sl=>sl) (fun v f sl=>vFn v f sl) (fun _ _ _ sl=>sl) (fun _ _ sl=>sl)
def MP (v:V) (k sl:Rv):Rv:=Bool.rec (motive:=fun _=>Rv) sl k v.isOne
def uC:U→(C→Rv)→Rv→Rv:=U.rec (motive:=fun _=>(C→Rv)→Rv→Rv) (fun k n f sl=>f (.int k n)) (fun b f sl=>f (.kb b)) (fun h o f sl=>f (.ptr h o)) (fun h v o f sl=>f (.gp h v o)) (fun h v e o l f sl=>f (.gsl h v e o l)) (fun v f sl=>MP v (f (.oth v)) sl) (fun _ _ _ sl=>sl) (fun _ _ sl=>sl)
def MO:U→(CT→Nat→Rv)→Rv→Rv:=U.rec (motive:=fun _=>(CT→Nat→Rv)→Rv→Rv) (fun _ _ _ sl=>sl) (fun _ _ sl=>sl) (fun _ _ _ sl=>sl) (fun _ _ _ _ sl=>sl) (fun _ _ _ _ _ _ sl=>sl) (fun _ _ sl=>sl) (fun t n f sl=>f t n) (fun _ _ sl=>sl)
def RZ:U→(List W→Rv)→Rv→Rv:=U.rec (motive:=fun _=>(List W→Rv)→Rv→Rv) (fun _ _ _ sl=>sl) (fun _ _ sl=>sl) (fun _ _ _ sl=>sl) (fun _ _ _ _ sl=>sl) (fun _ _ _ _ _ _ sl=>sl) (fun _ _ sl=>sl) (fun _ _ _ sl=>sl) (fun l f sl=>f l)
def uCA:U→(C→Rv)→(CT→Nat→Rv)→Rv→Rv:=U.rec (motive:=fun _=>(C→Rv)→(CT→Nat→Rv)→Rv→Rv) (fun k n f g sl=>f (.int k n)) (fun b f g sl=>f (.kb b)) (fun h o f g sl=>f (.ptr h o)) (fun h v o f g sl=>f (.gp h v o)) (fun h v e o l f g sl=>f (.gsl h v e o l)) (fun v f g sl=>MP v (f (.oth v)) sl) (fun t n f g sl=>g t n) (fun _ _ _ sl=>sl)
def RU:U→Rv→Rv→Rv→Rv:=U.rec (motive:=fun _=>Rv→Rv→Rv→Rv) (fun _ _ _ _ sl=>sl) (fun b y n _=>Bool.rec (motive:=fun _=>Rv) n y b) (fun _ _ _ _ sl=>sl) (fun _ _ _ _ _ sl=>sl) (fun _ _ _ _ _ _ _ sl=>sl) (fun _ _ _ sl=>sl) (fun _ _ _ _ sl=>sl) (fun l _ n sl=>List.rec (motive:=fun _=>Rv) n (fun _ _ _=>sl) l)
def RQ:U→Rv→Rv→Rv→Rv:=U.rec (motive:=fun _=>Rv→Rv→Rv→Rv) (fun _ _ _ _ sl=>sl) (fun b y n _=>Bool.rec (motive:=fun _=>Rv) y n b) (fun _ _ _ _ sl=>sl) (fun _ _ _ _ _ sl=>sl) (fun _ _ _ _ _ _ _ sl=>sl) (fun _ _ _ sl=>sl) (fun _ _ _ _ sl=>sl) (fun l _ n sl=>List.rec (motive:=fun _=>Rv) n (fun _ _ _=>sl) l)
def ckR (b:Bool) (r sl:Rv):Rv:=Bool.rec (motive:=fun _=>Rv) sl r b
def bkC:Bk→(CT→Nat→Rv)→Rv→Rv:=Bk.rec (motive:=fun _=>(CT→Nat→Rv)→Rv→Rv) (fun _ sl=>sl) (fun t n k _=>k t n) (fun _ _ _ _ _ sl=>sl) (fun _ _ sl=>sl)
def bkG:Bk→(Nat→Nat→CT→Nat→Rv)→Rv→Rv:=Bk.rec (motive:=fun _=>(Nat→Nat→CT→Nat→Rv)→Rv→Rv) (fun _ sl=>sl) (fun _ _ _ sl=>sl) (fun v e t n k _=>k v e t n) (fun _ _ sl=>sl)
def bK (n:Nat) :(Nat→Rv)→Rv:=Nat.rec (motive:=fun _=>(Nat→Rv)→Rv) (fun k=>k 0) (fun n _ k=>k (Nat.succ n)) n
def JH:Int→(Nat→Rv)→Rv→Rv:=Int.rec (motive:=fun _=>(Nat→Rv)→Rv→Rv) (fun n k _=>k n) (fun _ _ sl=>sl)
def oB (dst:CT) (d:Nat) (src:CT) (s n:Nat):CT:=Nat.rec (motive:=fun _=>CT) dst (fun i acc=>dD acc (Nat.add d i) (bZ src (Nat.add s i))) n
inductive TI where
 | no
 | one
 | agg (n:Nat)
def tyI (tb:Tbl) (t:TypeId):TI:=match tb t with
 | some td=>if td.kind.agg then .agg td.size else if td.size=1 then .one else .no
 | none=> .no
def Lk (tb:Tbl) (t:TypeId) (f:Nat):Option Nat:=match tb t with
 | some td=>match td.kind with
  | .struct fs=>match fs[f]? with
   | some (o,ft)=>match tb ft with
    | some tf=>if tf.size=0 then none else some o
    | none=>none
   | none=>none
  | _=>none
 | none=>none
inductive FVI where
 | no
 | at (o:Nat) (i:TI)
def Ow (tb:Tbl) (t:TypeId) (f:Nat):FVI:=match tb t with
 | some td=>match td.kind with
  | .struct fs=>match fs[f]? with
   | some (o,ft)=> .at o (tyI tb ft)
   | none=> .no
  | _=> .no
 | none=> .no
inductive IXI where
 | no
 | sl (esz:Nat)
 | ar (len esz:Nat)
def Ls (tb:Tbl) (t:TypeId):IXI:=match tb t with
 | some td=>match td.kind with
  | .slice e=>match tb e with|some te=> .sl te.size|none=> .no
  | .arr len e=>match tb e with|some te=> .ar len te.size|none=> .no
  | _=> .no
 | none=> .no
inductive IVI where
 | no
 | at (len esz:Nat) (i:TI)
def ON (tb:Tbl) (t:TypeId):IVI:=match tb t with
 | some td=>match td.kind with
  | .arr len e=>match tb e with|some te=> .at len te.size (tyI tb e)|none=> .no
  | _=> .no
 | none=> .no
inductive ZTI where
 | no
 | at (t:CT) (n:Nat)
def wm (tb:Tbl) (t:TypeId):ZTI:=match tb t with
 | some td=>bif fZ td.zero then .at (ofL td.zero) td.zero.length else .no
 | none=> .no
def cvI (tb:Tbl) (s d:TypeId):Option IntKind:=match tb s,tb d with
 | some ts,some td=>match ts.kind,td.kind with
  | .int _,.int k=>some k
  | _,_=>none
 | _,_=>none
inductive PI where
 | no
 | at (o size:Nat)
def JE (tb:Tbl) (t:TypeId) (i:Nat):PI:=match tb t with
 | some td=>match td.kind with
  | .struct fs=>match fs[i]? with
   | some (o,ft)=>match tb ft with
    | some tf=> .at o tf.size
    | none=> .no
   | none=> .no
  | .arr _ e=>match tb e with
   | some te=> .at (i*te.size) te.size
   | none=> .no
  | _=> .no
 | none=> .no
def wE (tb:Tbl) (t:TypeId):Bool:=match tb t with
 | some td=>match td.kind with
  | .struct fs=>fs.all fun q=>(tb q.2).isSome
  | .arr _ e=>(tb e).isSome
  | _=>false
 | none=>false
inductive SLI where
 | no
 | at (esz:Nat) (t:CT) (n:Nat)
def N3 (tb:Tbl) (t:TypeId) (n:Nat):SLI:=match tb t with
 | some td=>match td.kind with
  | .slice e=>match tb e with
   | some te=>if te.ty.isNone=true∧n≤1000∧te.size≤1000∧te.zero.length=te.size∧fZ (mu te.zero n)=true then .at te.size (ofL (mu te.zero n)) (n*te.size) else .no
   | none=> .no
  | _=> .no
 | none=> .no
inductive API where
 | no
 | at (esz bytes:Nat)
def NY (tb:Tbl) (c:Call):API:=match c.argTypes.toList with
 | [t,t2]=>match tb t,tb t2 with
  | some td,some td2=>match td.kind with
   | .slice e=>match tb e with
    | some te=>if (iY tb td2).isSome=true∧te.ty.isNone=true∧0<te.bytes∧te.bytes≤1000∧te.zero.length=te.size then .at te.size te.bytes else .no
    | none=> .no
   | _=> .no
  | _,_=> .no
 | _=> .no
def Iu (tb:Tbl) (c:Call):Bool:=match c.argTypes.toList with
 | [t]=>match tb t with
  | some td=>It td.kind
  | none=>false
 | _=>false
def Qi (tb:Tbl) (t:TypeId):Bool:=match tb t with
 | some _=>true
 | none=>false
def PR (tb:Tbl) (t:TypeId):Option Nat:=match tb t with
 | some td=>iY tb td
 | none=>none
def mxK (k:IntKind):Nat:=IntKind.rec (motive:=fun _=>Nat) 127 32767 2147483647 9223372036854775807 255 65535 4294967295 18446744073709551615 k
def ikN (k:IntKind):Nat:=IntKind.rec (motive:=fun _=>Nat) 0 1 2 3 4 5 6 7 k
def OJ (k k':IntKind):Bool:=Nat.beq (ikN k) (ikN k')
def Pc (a b:Int) (f:Nat→Nat→Int) (g:Int):Int:=Int.rec (motive:=fun _=>Int) (fun x=>Int.rec (motive:=fun _=>Int) (fun y=>f x y) (fun _=>g) b) (fun _=>g) a
def Pb (a b:Int) (f:Nat→Nat→Bool) (g:Bool):Bool:=Int.rec (motive:=fun _=>Bool) (fun x=>Int.rec (motive:=fun _=>Bool) (fun y=>f x y) (fun _=>g) b) (fun _=>g) a
def Pd (a b:Int) (f:Nat→Nat→Rv) (g:Rv):Rv:=Int.rec (motive:=fun _=>Rv) (fun x=>Int.rec (motive:=fun _=>Rv) (fun y=>f x y) (fun _=>g) b) (fun _=>g) a
def xr (k:IntKind) (n:Nat) (s:Int):Int:=Bool.rec (motive:=fun _=>Int) s (.ofNat n) (Nat.ble n (mxK k))
def NU (k:IntKind) (a b:Int):Int:=Pc a b (fun x y=>xr k (Nat.add x y) (k.wrap (a+b))) (k.wrap (a+b))
def Qb (k:IntKind) (a b:Int):Int:=Pc a b (fun x y=>Bool.rec (motive:=fun _=>Int) (k.wrap (a - b)) (xr k (Nat.sub x y) (k.wrap (a - b))) (Nat.ble y x)) (k.wrap (a - b))
def O8 (k:IntKind) (a b:Int):Int:=Pc a b (fun x y=>xr k (Nat.mul x y) (k.wrap (a*b))) (k.wrap (a*b))
def cvS (k:IntKind) (a:Int):Int:=Int.rec (motive:=fun _=>Int) (fun x=>xr k x (k.wrap a)) (fun _=>k.wrap a) a
def eqS (a b:Int):Bool:=Pb a b (fun x y=>Nat.beq x y) (a==b)
def ltS (a b:Int):Bool:=Pb a b (fun x y=>Nat.ble (Nat.succ x) y) (decide (a<b))
def leS (a b:Int):Bool:=Pb a b (fun x y=>Nat.ble x y) (decide (a≤b))
def F5 (b:Bool):Bool:=Bool.rec (motive:=fun _=>Bool) true false b
def QV (ik:IntKind) (a b:Int) (k:U→Rv) (_:Rv):Rv:=k (.int ik (NU ik a b))
def QZ (ik:IntKind) (a b:Int) (k:U→Rv) (_:Rv):Rv:=k (.int ik (Qb ik a b))
def QW (ik:IntKind) (a b:Int) (k:U→Rv) (_:Rv):Rv:=k (.int ik (O8 ik a b))
def QX (ik:IntKind) (a b:Int) (k:U→Rv) (sl:Rv):Rv:=Pd a b (fun x y=>ckR (Nat.ble 1 y) (k (.int ik (xr ik (Nat.div x y) (ik.wrap (a.tdiv b))))) sl) sl
def QY (ik:IntKind) (a b:Int) (k:U→Rv) (sl:Rv):Rv:=Pd a b (fun x y=>ckR (Nat.ble 1 y) (k (.int ik (.ofNat (Nat.mod x y)))) sl) sl
def fEq (_:IntKind) (a b:Int) (k:U→Rv) (_:Rv):Rv:=k (.kb (eqS a b))
def fNe (_:IntKind) (a b:Int) (k:U→Rv) (_:Rv):Rv:=k (.kb (F5 (eqS a b)))
def fLt (_:IntKind) (a b:Int) (k:U→Rv) (_:Rv):Rv:=k (.kb (ltS a b))
def fLe (_:IntKind) (a b:Int) (k:U→Rv) (_:Rv):Rv:=k (.kb (leS a b))
def fGt (_:IntKind) (a b:Int) (k:U→Rv) (_:Rv):Rv:=k (.kb (ltS b a))
def fGe (_:IntKind) (a b:Int) (k:U→Rv) (_:Rv):Rv:=k (.kb (leS b a))
def F3 (m:Nat) (hp:HP) (b:Bk) (u:U) (k:U→HP→Rv) (sl:Rv):Rv:=ckR (Nat.ble (Nat.succ m) LL) (k u (cS hp m b)) sl
def Se (x:U) (hp:HP) (m:Nat) (k:U→HP→Rv) (sl:Rv):Rv:=uCA x (fun c=>F3 m hp (.cells (dD ct0 0 c) 1) (.ptr m 0) k sl) (fun t n=>F3 m hp (.cells t n) (.ptr m 0) k sl) sl
abbrev LdF:=CT→Nat→Nat→(U→Rv)→Rv→Rv
def Ah:LdF:=fun ct n off k sl=>ckR (Nat.ble (Nat.succ off) n) (k (cU (bZ ct off))) sl
def Ag (m:Nat):LdF:=fun ct n off k sl=>ckR (Nat.ble (Nat.add off m) n) (Bool.rec (motive:=fun _=>Rv) (k (.agg (oB ct0 0 ct off m) m)) (k (.agg ct n)) (Nat.beq m n)) sl
def ldG (ld:LdF) (a:U) (hp:HP) (k:U→Rv) (sl:Rv):Rv:=DC a (fun h o=>bkC (aP hp h) (fun ct n=>ld ct n o k sl) sl) (fun h v o=>bkG (aP hp h) (fun v' _ ct n=>ckR (Nat.beq v v') (ld ct n o k sl) sl) sl) sl
abbrev StF:=U→CT→Nat→Nat→(CT→Rv)→Rv→Rv
def Nz:StF:=fun x ct n off k sl=>ckR (Nat.ble (Nat.succ off) n) (uC x (fun c=>k (dD ct off c)) sl) sl
def Ny (m:Nat):StF:=fun x ct n off k sl=>MO x (fun xt m'=>ckR (Nat.beq m m') (ckR (Nat.ble (Nat.add off m) n) (Bool.rec (motive:=fun _=>Rv) (k (oB ct off xt 0 m)) (k xt) (Nat.beq m n)) sl) sl) sl
def stG (st:StF) (a x:U) (hp:HP) (k:U→HP→Rv) (sl:Rv):Rv:=DC a (fun h o=>bkC (aP hp h) (fun ct n=>st x ct n o (fun ct=>k (.tup []) (cS hp h (.cells ct n))) sl) sl) (fun h v o=>bkG (aP hp h) (fun v' e ct n=>ckR (Nat.beq v v') (st x ct n o (fun ct=>k (.tup []) (cS hp h (.grow v e ct n))) sl) sl) sl) sl
def faG (d:Nat) (x:U) (k:U→Rv) (sl:Rv):Rv:=DC x (fun h o=>k (.ptr h (Nat.add o d))) (fun h v o=>k (.gp h v (Nat.add o d))) sl
def fvG (o:Nat) (ld:LdF) (x:U) (k:U→Rv) (sl:Rv):Rv:=MO x (fun ct n=>ld ct n o k sl) sl
def Sq (esz:Nat) (x i:U) (hp:HP) (k:U→Rv) (sl:Rv):Rv:=BD i (fun _ n=>JH n (fun m=>Ql x (fun h v e o l=>ckR (Nat.ble (Nat.succ m) l) (bkG (aP hp h) (fun v' e' _ _=>ckR (Nat.beq v v') (ckR (Nat.beq esz e) (ckR (Nat.beq e e') (k (.gp h v (Nat.mul (Nat.add o m) e))) sl) sl) sl) sl) sl) sl) sl) sl
def Sp (l esz:Nat) (x i:U) (k:U→Rv) (sl:Rv):Rv:=BD i (fun _ n=>JH n (fun m=>ckR (Nat.ble (Nat.succ m) l) (DC x (fun h o=>k (.ptr h (Nat.add o (Nat.mul m esz)))) (fun h v o=>k (.gp h v (Nat.add o (Nat.mul m esz)))) sl) sl) sl) sl
def ixV (l esz:Nat) (ld:LdF) (x i:U) (k:U→Rv) (sl:Rv):Rv:=BD i (fun _ n=>JH n (fun m=>ckR (Nat.ble (Nat.succ m) l) (MO x (fun ct n=>ld ct n (Nat.mul m esz) k sl) sl) sl) sl) sl
abbrev Fg:=IntKind→Int→Int→(U→Rv)→Rv→Rv
def KZ (f:Fg) (x y:U) (k:U→Rv) (sl:Rv):Rv:=BD x (fun ik a=>BD y (fun ik' b=>ckR (OJ ik ik') (f ik a b k sl) sl) sl) sl
def Sx (x:U) (k:U→Rv) (sl:Rv):Rv:=uKb x (fun b=>k (.kb (F5 b))) sl
def cvG (ik:IntKind) (x:U) (k:U→Rv) (sl:Rv):Rv:=BD x (fun _ n=>k (.int ik (cvS ik n))) sl
def Ru (i:Nat):List W→(U→Rv)→Rv→Rv:=Nat.rec (motive:=fun _=>List W→(U→Rv)→Rv→Rv) (List.rec (motive:=fun _=>(U→Rv)→Rv→Rv) (fun _ sl=>sl) fun w _ _ k _=>k (wU w)) (fun _ ih=>List.rec (motive:=fun _=>(U→Rv)→Rv→Rv) (fun _ sl=>sl) fun _ r _=>ih r) i
def exG (i:Nat) (x:U) (k:U→Rv) (sl:Rv):Rv:=RZ x (fun l=>Ru i l k sl) sl
def Sv (x:U) (k:U→Rv) (sl:Rv):Rv:=DC x (fun h o=>k (.ptr h o)) (fun h v o=>k (.gp h v o)) sl
def Rx (c a b:U) (k:U→Rv) (sl:Rv):Rv:=uKb c (fun p=>k (Bool.rec (motive:=fun _=>U) b a p)) sl
def N2 (x:Option Operand) (d:Nat) (ev:Operand→U) (k:Nat→Rv) (sl:Rv):Rv:=Option.rec (motive:=fun _=>Rv) (k d) (fun x=>BD (ev x) (fun _ n=>JH n k sl) sl) x
def SC (esz:Nat) (x:U) (lo hi:Option Operand) (ev:Operand→U) (hp:HP) (k:U→Rv) (sl:Rv):Rv:=Ql x (fun h v e o l=>bkG (aP hp h) (fun v' e' _ _=>ckR (Nat.beq v v') (ckR (Nat.beq esz e) (ckR (Nat.beq e e') (N2 lo 0 ev (fun a=>N2 hi l ev (fun b=>ckR (Nat.ble b l) (ckR (Nat.ble (Nat.succ a) b) (k (.gsl h v e (Nat.add o a) (Nat.sub b a))) sl) sl) sl) sl) sl) sl) sl) sl) sl
def Ss (x:U) (hp:HP) (k:U→Rv) (sl:Rv):Rv:=uSl x (k (.int .i64 (.ofNat 0))) (k (.int .i64 (.ofNat 0))) (fun h v e _ l=>bkG (aP hp h) (fun v' e' _ _=>ckR (Nat.beq v v') (ckR (Nat.beq e e') (ckR (Nat.ble l ai) (k (.int .i64 (.ofNat l))) sl) sl) sl) sl) sl
def gcG (hp:HP) (esz:Nat) (u:U) (k:Nat→CT→Nat→Rv) (sl:Rv):Rv:=uSl u (k 0 ct0 0) (k 0 ct0 0) (fun h v e o l=>bkG (aP hp h) (fun v' e' t n=>ckR (Nat.beq v v') (ckR (Nat.beq e esz) (ckR (Nat.beq e' esz) (ckR (Nat.ble (Nat.mul (Nat.add o l) esz) n) (k l t (Nat.mul o esz)) sl) sl) sl) sl) sl) sl
def G0 (esz bytes:Nat) (hp:HP) (m n:Nat) (xt:CT) (xo:Nat) (k:U→HP→Rv) (sl:Rv):Rv:=ckR (Nat.ble (Nat.mul n bytes) 70368744177664) (ckR (Nat.ble (Nat.mul n esz) LM) (F3 m hp (.grow m esz (oB ct0 0 xt xo (Nat.mul n esz)) (Nat.mul n esz)) (.gsl m m esz 0 n) k sl) sl) sl
def apX (esz bytes:Nat) (hp:HP) (m:Nat) (s:U) (c:Nat) (xt:CT) (xo:Nat) (k:U→HP→Rv) (sl:Rv):Rv:=
 Nat.rec (motive:=fun _=>Rv) (uSl s (k s hp) (k s hp) (fun h v e _ _=>bkG (aP hp h) (fun v' e' _ _=>ckR (Nat.beq v v') (ckR (Nat.beq e e') (k s hp) sl) sl) sl) sl)
  (fun c _=>uSl s (G0 esz bytes hp m (Nat.succ c) xt xo k sl) (G0 esz bytes hp m (Nat.succ c) xt xo k sl)
   (fun h v e o l=>bkG (aP hp h) (fun v' e' t n=>ckR (Nat.beq v v') (ckR (Nat.beq e esz) (ckR (Nat.beq e' esz) (ckR (Nat.beq o 0) (ckR (Nat.beq (Nat.mul l esz) n) (ckR (Nat.ble (Nat.mul (Nat.add l (Nat.succ c)) bytes) 70368744177664) (ckR (Nat.ble (Nat.add n (Nat.mul (Nat.succ c) esz)) LM)
    (k (.gsl h m esz 0 (Nat.add l (Nat.succ c))) (cS hp h (.grow m esz (oB t n xt xo (Nat.mul (Nat.succ c) esz)) (Nat.add n (Nat.mul (Nat.succ c) esz))))) sl) sl) sl) sl) sl) sl) sl) sl) sl)
  c
def apG (esz bytes:Nat) (s x:U) (hp:HP) (nx:Nat) (k:U→HP→Rv) (sl:Rv):Rv:=gcG hp esz x (fun c xt xo=>bK nx fun m=>apX esz bytes hp m s c xt xo k sl) sl
def DP (l:List Operand) (ev:Operand→U):List V:=List.rec (motive:=fun _=>List V) [] (fun x _ ih=>(ev x).toV::ih) l
structure En where
 e0:Nat
 e1:Nat
 e2:Nat
 e3:Nat
def en0:En:=⟨0,0,0,0⟩
abbrev Gt:=U→U→U→U→TM→U
def isK (K i:Nat):Bool:=Bool.rec (motive:=fun _=>Bool) false (Nat.beq (Nat.mod (Nat.shiftRight K i) 2) 1) (Nat.ble (Nat.succ i) 512)
def u0:U:= .oth .any
def cX (K:Nat) (e:En) (i:Nat):Gt:=
 Bool.rec (motive:=fun _=>Gt) (Bool.rec (motive:=fun _=>Gt) (Bool.rec (motive:=fun _=>Gt) (Bool.rec (motive:=fun _=>Gt) (Bool.rec (motive:=fun _=>Gt) (fun _ _ _ _ _=>u0) (Ac.rec (motive:=fun _=>Gt) (fun g _=>fun _ _ _ _ tm=>g tm) (cq i)) (isK K i))
  (fun _ _ _ r _=>r) (Nat.beq e.e3 (Nat.succ i))) (fun _ _ r _ _=>r) (Nat.beq e.e2 (Nat.succ i))) (fun _ r _ _ _=>r) (Nat.beq e.e1 (Nat.succ i))) (fun r _ _ _ _=>r) (Nat.beq e.e0 (Nat.succ i))
def rdS (K:Nat) (e:En) (x:Operand):Gt:=Operand.rec (motive:=fun _=>Gt) (fun i=>cX K e i) (fun v _ _ _ _ _=>jQ (cv v)) (fun _ _ _ _ _ _=>u0) (fun f _ _ _ _ _=> .oth (.fn f [])) x
def G4 (l:List Gt):U→U→U→U→TM→List V→List U:=List.rec (motive:=fun _=>U→U→U→U→TM→List V→List U) (fun _ _ _ _ _ cs=>cs.map jQ) (fun g _ ih a b c d tm cs=>g a b c d tm::ih a b c d tm cs) l
def Sh (l:List Gt) (f a b c d:U) (tm:TM) (k:FuncId→List U→Rv) (sl:Rv):Rv:=uFn f (fun g cs=>ckR (bP cs) (k g (G4 l a b c d tm cs)) sl) sl
inductive PG where
 | at (o s:Nat) (g:Gt)
def HJ (a b c d:U) (tm:TM) (n:Nat) (l:List PG):CT→(CT→Rv)→Rv→Rv:=List.rec (motive:=fun _=>CT→(CT→Rv)→Rv→Rv) (fun t k _=>k t)
 (fun q _ ih t k sl=>PG.rec (motive:=fun _=>Rv) (fun o s g=>ckR (Nat.ble (Nat.add o s) n) (uCA (g a b c d tm) (fun x=>ckR (Nat.beq s 1) (ih (dD t o x) k sl) sl) (fun xt m=>ckR (Nat.beq s m) (ih (oB t o xt 0 m) k sl) sl) sl) sl) q) l
def Sf (esz n:Nat) (z:CT) (len:Nat) (a b c d:U) (tm:TM) (l:List PG) (hp:HP) (nx:Nat) (k:U→HP→Rv) (sl:Rv):Rv:=HJ a b c d tm len l z (fun t=>bK nx fun m=>F3 m hp (.grow m esz t len) (.gsl m m esz 0 n) k sl) sl
abbrev VaF:=U→U→U→U→TM→HP→Nat→(U→Rv)→Rv→Rv
abbrev MeF:=U→U→U→U→TM→HP→Nat→(U→HP→Rv)→Rv→Rv
abbrev CaF:=U→U→U→U→TM→(FuncId→List U→Rv)→Rv→Rv
inductive Stp where
 | slow
 | val (f:VaF)
 | mem (f:MeF)
 | cal (f:CaF)
def HX (K:Nat) (e:En) (i:Nat) (k:Gt→Stp):Stp:=
 Bool.rec (motive:=fun _=>Stp) (Bool.rec (motive:=fun _=>Stp) (Bool.rec (motive:=fun _=>Stp) (Bool.rec (motive:=fun _=>Stp) (Bool.rec (motive:=fun _=>Stp) (k fun _ _ _ _ _=>u0) (Ac.rec (motive:=fun _=>Stp) (fun g _=>k fun _ _ _ _ tm=>g tm) (cq i)) (isK K i))
  (k fun _ _ _ r _=>r) (Nat.beq e.e3 (Nat.succ i))) (k fun _ _ r _ _=>r) (Nat.beq e.e2 (Nat.succ i))) (k fun _ r _ _ _=>r) (Nat.beq e.e1 (Nat.succ i))) (k fun r _ _ _ _=>r) (Nat.beq e.e0 (Nat.succ i))
def cZ (K:Nat) (e:En) (x:Operand) (k:Gt→Stp):Stp:=Operand.rec (motive:=fun _=>Stp) (fun i=>HX K e i k) (fun v=>U.rec (motive:=fun _=>Stp) (fun ik n=>k fun _ _ _ _ _=> .int ik n) (fun b=>k fun _ _ _ _ _=> .kb b) (fun h o=>k fun _ _ _ _ _=> .ptr h o) (fun h v o=>k fun _ _ _ _ _=> .gp h v o) (fun h v e o l=>k fun _ _ _ _ _=> .gsl h v e o l) (fun v=>k fun _ _ _ _ _=> .oth v) (fun t n=>k fun _ _ _ _ _=> .agg t n) (fun l=>k fun _ _ _ _ _=> .tup l) (jQ (cv v))) (fun _=>k fun _ _ _ _ _=>u0) (fun f=>k fun _ _ _ _ _=> .oth (.fn f [])) x
def Nf (K:Nat) (e:En) (l:List Operand) :(List Gt→Stp)→Stp:=List.rec (motive:=fun _=>(List Gt→Stp)→Stp) (fun k=>k []) (fun x _ ih k=>cZ K e x fun g=>ih fun gs=>k (g::gs)) l
def x7 (K:Nat) (e:En) (pi:Nat→PI) (l:List (Nat×Operand)) :(List PG→Stp)→Stp:=List.rec (motive:=fun _=>(List PG→Stp)→Stp) (fun k=>k []) (fun q _ ih k=>PI.rec (motive:=fun _=>Stp) .slow (fun o s=>cZ K e q.2 fun g=>ih fun gs=>k (.at o s g::gs)) (pi q.1)) l
def DN (x:Operand) (K:Nat) (e:En) (_:Tbl):Stp:=cZ K e x fun gx=> .val fun a b c d tm _ _ k _=>k (gx a b c d tm)
def MY (p x y:Operand) (K:Nat) (e:En) (_:Tbl):Stp:=cZ K e p fun gp=>cZ K e x fun gx=>cZ K e y fun gy=> .val fun a b c d tm _ _=>Rx (gp a b c d tm) (gx a b c d tm) (gy a b c d tm)
def B0 (t:TypeId) (_:Nat) (_:En) (tb:Tbl):Stp:=ZTI.rec (motive:=fun _=>Stp) .slow (fun z n=> .mem fun _ _ _ _ _ hp nx k sl=>bK nx fun m=>F3 m hp (.cells z n) (.ptr m 0) k sl) (wm tb t)
def QG (_:TypeId) (x:Operand) (K:Nat) (e:En) (_:Tbl):Stp:=cZ K e x fun gx=> .mem fun a b c d tm hp nx k sl=>bK nx fun m=>Se (gx a b c d tm) hp m k sl
def ldS (i:TI) :(LdF→Stp)→Stp:=TI.rec (motive:=fun _=>(LdF→Stp)→Stp) (fun _=> .slow) (fun k=>k Ah) (fun n k=>k (Ag n)) i
def MX (t:TypeId) (x:Operand) (K:Nat) (e:En) (tb:Tbl):Stp:=ldS (tyI tb t) fun ld=>cZ K e x fun gx=> .val fun a b c d tm hp _=>ldG ld (gx a b c d tm) hp
def stS (i:TI) :(StF→Stp)→Stp:=TI.rec (motive:=fun _=>(StF→Stp)→Stp) (fun _=> .slow) (fun k=>k Nz) (fun n k=>k (Ny n)) i
def Hg (t:TypeId) (x y:Operand) (K:Nat) (e:En) (tb:Tbl):Stp:=stS (tyI tb t) fun st=>cZ K e x fun gx=>cZ K e y fun gy=> .mem fun a b c d tm hp _=>stG st (gx a b c d tm) (gy a b c d tm) hp
def cFA (t:TypeId) (x:Operand) (f:Nat) (K:Nat) (e:En) (tb:Tbl):Stp:=Option.rec (motive:=fun _=>Stp) .slow (fun o=>cZ K e x fun gx=> .val fun a b c d tm _ _=>faG o (gx a b c d tm)) (Lk tb t f)
def cFV (t:TypeId) (x:Operand) (f:Nat) (K:Nat) (e:En) (tb:Tbl):Stp:=FVI.rec (motive:=fun _=>Stp) .slow (fun o i=>ldS i fun ld=>cZ K e x fun gx=> .val fun a b c d tm _ _=>fvG o ld (gx a b c d tm)) (Ow tb t f)
def cIA (t:TypeId) (x i:Operand) (K:Nat) (e:En) (tb:Tbl):Stp:=IXI.rec (motive:=fun _=>Stp) .slow
 (fun esz=>cZ K e x fun gx=>cZ K e i fun gi=> .val fun a b c d tm hp _=>Sq esz (gx a b c d tm) (gi a b c d tm) hp)
 (fun l esz=>cZ K e x fun gx=>cZ K e i fun gi=> .val fun a b c d tm _ _=>Sp l esz (gx a b c d tm) (gi a b c d tm)) (Ls tb t)
def Oc (t:TypeId) (x i:Operand) (K:Nat) (e:En) (tb:Tbl):Stp:=IVI.rec (motive:=fun _=>Stp) .slow (fun l esz ti=>ldS ti fun ld=>cZ K e x fun gx=>cZ K e i fun gi=> .val fun a b c d tm _ _=>ixV l esz ld (gx a b c d tm) (gi a b c d tm)) (ON tb t)
def Sc (op:BinOp) :(Fg→Stp)→Stp:=BinOp.rec (motive:=fun _=>(Fg→Stp)→Stp)
 (fun k=>k QV) (fun k=>k QZ) (fun k=>k QW) (fun k=>k QX) (fun k=>k QY) (fun _=> .slow) (fun _=> .slow) (fun _=> .slow) (fun _=> .slow) (fun _=> .slow) (fun _=> .slow)
 (fun k=>k fEq) (fun k=>k fNe) (fun k=>k fLt) (fun k=>k fLe) (fun k=>k fGt) (fun k=>k fGe) op
def N6 (op:BinOp) (t:TypeId) (x y:Operand) (_:TypeId) (K:Nat) (e:En) (tb:Tbl):Stp:=Bool.rec (motive:=fun _=>Stp) .slow (Sc op fun f=>cZ K e x fun gx=>cZ K e y fun gy=> .val fun a b c d tm _ _=>KZ f (gx a b c d tm) (gy a b c d tm)) (Qi tb t)
def cUn (op:UnOp) (_:TypeId) (x:Operand) (K:Nat) (e:En) (_:Tbl):Stp:=UnOp.rec (motive:=fun _=>Stp) .slow .slow (cZ K e x fun gx=> .val fun a b c d tm _ _=>Sx (gx a b c d tm)) .slow op
def Hc (s t:TypeId) (x:Operand) (K:Nat) (e:En) (tb:Tbl):Stp:=Option.rec (motive:=fun _=>Stp) .slow (fun ik=>cZ K e x fun gx=> .val fun a b c d tm _ _=>cvG ik (gx a b c d tm)) (cvI tb s t)
def cMF (fn:Fn) (first caps:Array Operand) (K:Nat) (e:En) (_:Tbl):Stp:=match fn with
 | .func f=>Bool.rec (motive:=fun _=>Stp) .slow (.val fun a b c d tm _ _ k sl=>ckR (bP (DP caps.toList fun x=>rdS K e x a b c d tm)) (k (.oth (.fn f (DP caps.toList fun x=>rdS K e x a b c d tm)))) sl) (Nat.beq first.size 0)
 | _=> .slow
def QI (x:Operand) (i:Nat) (K:Nat) (e:En) (_:Tbl):Stp:=cZ K e x fun gx=> .val fun a b c d tm _ _=>exG i (gx a b c d tm)
def QJ (x:Operand) (K:Nat) (e:En) (_:Tbl):Stp:=cZ K e x fun gx=> .val fun a b c d tm _ _=>Sv (gx a b c d tm)
def B1 (t:TypeId) (parts:Array (Nat×Operand)) (K:Nat) (e:En) (tb:Tbl):Stp:=Bool.rec (motive:=fun _=>Stp) .slow (ZTI.rec (motive:=fun _=>Stp) .slow (fun z n=>x7 K e (JE tb t) parts.toList fun gs=> .val fun a b c d tm _ _ k sl=>HJ a b c d tm n gs z (fun t=>k (.agg t n)) sl) (wm tb t)) (wE tb t)
def N5 (t:TypeId) (n:Nat) (parts:Array (Nat×Operand)) (K:Nat) (e:En) (tb:Tbl):Stp:=SLI.rec (motive:=fun _=>Stp) .slow (fun esz z len=>x7 K e (fun i=> .at (Nat.mul i esz) esz) parts.toList fun gs=> .mem fun a b c d tm hp nx=>Sf esz n z len a b c d tm gs hp nx) (N3 tb t n)
def B2 (t:TypeId) (x:Operand) (lo hi mx:Option Operand) (K:Nat) (e:En) (tb:Tbl):Stp:=Option.rec (motive:=fun _=>Stp) (Option.rec (motive:=fun _=>Stp) .slow (fun esz=>cZ K e x fun gx=> .val fun a b c d tm hp _=>SC esz (gx a b c d tm) lo hi (fun x=>rdS K e x a b c d tm) hp) (PR tb t)) (fun _=> .slow) mx
def CM (l:List Operand) (k:Operand→Stp):Stp:=List.rec (motive:=fun _=>Stp) .slow (fun x r _=>List.rec (motive:=fun _=>Stp) (k x) (fun _ _ _=> .slow) r) l
def KF (l:List Operand) (k:Operand→Operand→Stp):Stp:=List.rec (motive:=fun _=>Stp) .slow (fun x r _=>CM r (k x)) l
def Od (q:Call) (K:Nat) (e:En) (tb:Tbl):Stp:=Bool.rec (motive:=fun _=>Stp) .slow (CM q.args.toList fun x=>cZ K e x fun gx=> .val fun a b c d tm hp _=>Ss (gx a b c d tm) hp) (Iu tb q)
def N4 (q:Call) (K:Nat) (e:En) (tb:Tbl):Stp:=API.rec (motive:=fun _=>Stp) .slow (fun esz bytes=>KF q.args.toList fun s x=>cZ K e s fun gs=>cZ K e x fun gx=> .mem fun a b c d tm hp nx=>apG esz bytes (gs a b c d tm) (gx a b c d tm) hp nx) (NY tb q)
def gI (_:Call) (_:Nat) (_:En) (_:Tbl):Stp:= .slow
def QH (b:Builtin):Call→Nat→En→Tbl→Stp:=Builtin.rec (motive:=fun _=>Call→Nat→En→Tbl→Stp) N4 gI gI gI gI gI gI gI Od gI gI gI gI gI gI gI gI gI gI gI gI gI gI gI gI gI b
def Ha (q:Call) (K:Nat) (e:En) (tb:Tbl):Stp:=Callee.rec (motive:=fun _=>Stp) (fun f=>cZ K e f fun gf=>Nf K e q.args.toList fun gs=> .cal fun a b c d tm=>Sh gs (gf a b c d tm) a b c d tm) (fun _ _=> .slow) (fun b=>QH b q K e tb) q.callee
def cmp (K:Nat) (e:En) (tb:Tbl) (op:Op):Stp:=Op.rec (motive:=fun _=>Nat→En→Tbl→Stp)
 DN
 DN
 MY
 B0
 QG
 B1
 N5
 (fun _ _ _ _ _ _ _=> .slow)
 MX
 Hg
 (fun _ _ _ _=> .slow)
 (fun _ _ _ _=> .slow)
 QJ
 N6
 cUn
 Hc
 (fun _ _ _ _ _=> .slow)
 (fun _ _ _ _ _=> .slow)
 cMF
 (fun _ _ _ _ _=> .slow)
 (fun _ _ _ _ _=> .slow)
 (fun _ _ _ _ _ _=> .slow)
 B2
 cFA
 cFV
 cIA
 Oc
 (fun _ _ _ _ _ _ _=> .slow)
 (fun _ _ _ _ _ _ _=> .slow)
 (fun _ _ _ _ _ _=> .slow)
 (fun _ _ _ _ _ _ _=> .slow)
 (fun _ _ _ _ _=> .slow)
 (fun _ _ _ _ _=> .slow)
 (fun _ _ _ _=> .slow)
 (fun _ _ _ _ _ _ _=> .slow)
 QI
 Ha
 (fun _ _ _ _=> .slow)
 (fun _ _ _ _=> .slow)
 (fun _ _ _ _=> .slow)
 (fun _ _ _ _ _=> .slow)
 (fun _ _ _ _ _ _=> .slow)
 (fun _ _ _ _ _=> .slow) op K e tb
def hpH (hp:HP):aq:=fun h=>(aP hp h).toB
def sU:List (Nat×Blk)→HP→Option HP
 | [],hp=>some hp
 |(h,b)::r,hp=>match sU r hp with
  | some hp=>bif Nat.ble (Nat.succ h) LL then match b with
   | .cells cs=>bif fZ cs then some (cS hp h (.cells (ofL cs) cs.length)) else none
   | .grow v e cs=>bif fZ cs then some (cS hp h (.grow v e (ofL cs) cs.length)) else none
   | .mp es=>some (cS hp h (.mp es))
   | .row _ _ _ _=>none
   | .abs _ _ _=>none
   else none
  | none=>none
def kbV:V→V
 | .agg cs=> .agg (cs.map jk)
 | .tup vs=> .tup (vs.map fun v=>match v with
  | .agg cs=> .agg (cs.map jk)
  | v=>jk v)
 | v=>jk v
def Nx (tb:Tbl) (N:Nat) (op:Op) (ev:Operand→U) (hp:HP) (nx:Nat) (k:U→HP→Rv):Rv:=bK nx fun nx=>
 match re tb N nx (hpH hp) (fun x=>(ev x).toV) op with
 | some (ps,v,dh)=>match Nc ps with
  | true=>match sU dh hp with
   | some hp=>k (jQ (kbV v)) hp
   | none=> .no [104]
  | false=> .no [100]
 | none=> .no [101]
abbrev RgF:=U→U→U→U→eD→TM→HP→Nat→Rv
structure Cds where
 run:RgF
abbrev R8:=U→TM→TM
inductive DK where
 | none
 | drop
 | keep (p:R8)
def dkS (K:Nat) (d:Option Nat):DK:=Option.rec (motive:=fun _=>DK) .none (fun i=>Bool.rec (motive:=fun _=>DK) .drop (Ac.rec (motive:=fun _=>DK) (fun _ p=> .keep p) (cq i)) (isK K i)) d
def enS (e:En) (d:Option Nat):En:=Option.rec (motive:=fun _=>En) e (fun i=>⟨Nat.succ i,e.e0,e.e1,e.e2⟩) d
def jC (dk:DK) (nxt:Cds):U→U→U→U→U→eD→TM→HP→Nat→Rv:=DK.rec (motive:=fun _=>U→U→U→U→U→eD→TM→HP→Nat→Rv)
 (fun _ a b c d call tm hp nx=>Cds.run nxt a b c d call tm hp nx)
 (fun u a b c _ call tm hp nx=>Cds.run nxt u a b c call tm hp nx)
 (fun p u a b c _ call tm hp nx=>Cds.run nxt u a b c call (p u tm) hp nx) dk
def QL (r:Rf):FuncId→(U→HP→Nat→Rv)→Rv:=Rf.rec (motive:=fun _=>FuncId→(U→HP→Nat→Rv)→Rv) (fun v hp nx _ k=>k v hp nx) (fun v hp nx _ k=>k v hp nx) (fun w g _=> .no (g::w)) r
def oe (tb:Tbl) (N K:Nat) (e:En) (op:Op) (dk:DK) (nxt:Cds) (a b c d:U) (call:eD) (tm:TM) (hp:HP) (nx:Nat):Rv:=Nx tb N op (fun x=>rdS K e x a b c d tm) hp nx fun u hp=>jC dk nxt u a b c d call tm hp (Nat.succ nx)
def yw (tb:Tbl) (N K:Nat) (e:En) (op:Op) (dk:DK) (nxt:Cds) (s:Stp):Cds:=Stp.rec (motive:=fun _=>Cds)
 ⟨oe tb N K e op dk nxt⟩
 (fun f=>DK.rec (motive:=fun _=>Cds)
  ⟨fun a b c d call tm hp nx=>f a b c d tm hp nx (fun _=>Cds.run nxt a b c d call tm hp (Nat.succ nx)) (oe tb N K e op dk nxt a b c d call tm hp nx)⟩
  ⟨fun a b c d call tm hp nx=>f a b c d tm hp nx (fun u=>Cds.run nxt u a b c call tm hp (Nat.succ nx)) (oe tb N K e op dk nxt a b c d call tm hp nx)⟩
  (fun p=>⟨fun a b c d call tm hp nx=>f a b c d tm hp nx (fun u=>Cds.run nxt u a b c call (p u tm) hp (Nat.succ nx)) (oe tb N K e op dk nxt a b c d call tm hp nx)⟩) dk)
 (fun f=>⟨fun a b c d call tm hp nx=>f a b c d tm hp nx (fun u hp=>jC dk nxt u a b c d call tm hp (Nat.succ nx)) (oe tb N K e op dk nxt a b c d call tm hp nx)⟩)
 (fun f=>⟨fun a b c d call tm hp nx=>f a b c d tm (fun g args=>QL (call g args hp nx) g fun u hp nx=>jC dk nxt u a b c d call tm hp nx) (oe tb N K e op dk nxt a b c d call tm hp nx)⟩) s
def HM (all:List Oper) (j:Nat):Option Nat:=match all[j]? with
 | some oj=>oj.dst
 | none=>none
def QF:Cds:=⟨fun _ _ _ _ _ _ _ _=> .no [102]⟩
def HU (K:Nat) (e:En) (i:Nat) (k:Gt→Cds):Cds:=
 Bool.rec (motive:=fun _=>Cds) (Bool.rec (motive:=fun _=>Cds) (Bool.rec (motive:=fun _=>Cds) (Bool.rec (motive:=fun _=>Cds) (Bool.rec (motive:=fun _=>Cds) (k fun _ _ _ _ _=>u0) (Ac.rec (motive:=fun _=>Cds) (fun g _=>k fun _ _ _ _ tm=>g tm) (cq i)) (isK K i))
  (k fun _ _ _ r _=>r) (Nat.beq e.e3 (Nat.succ i))) (k fun _ _ r _ _=>r) (Nat.beq e.e2 (Nat.succ i))) (k fun _ r _ _ _=>r) (Nat.beq e.e1 (Nat.succ i))) (k fun r _ _ _ _=>r) (Nat.beq e.e0 (Nat.succ i))
def gdC (K:Nat) (e:En) (dj:Nat) (want:Bool) (dk:DK) (nxt un:Cds):Cds:=HU K e dj fun g=>Bool.rec (motive:=fun _=>Cds)
 ⟨fun a b c d call tm hp nx=>RQ (g a b c d tm) (Cds.run un a b c d call tm hp nx) (jC dk nxt (.tup []) a b c d call tm hp nx) (.no [105])⟩
 ⟨fun a b c d call tm hp nx=>RU (g a b c d tm) (Cds.run un a b c d call tm hp nx) (jC dk nxt (.tup []) a b c d call tm hp nx) (.no [105])⟩ want
def Po (tb:Tbl) (N K:Nat) (all:List Oper) (e:En) (o:Oper) (dk:DK) (nxt:Cds):Cds:=Option.rec (motive:=fun _=>Cds) (yw tb N K e o.op dk nxt (cmp K e tb o.op))
 (fun q=>Option.rec (motive:=fun _=>Cds) QF (fun dj=>gdC K e dj q.2 dk nxt (yw tb N K e o.op dk nxt (cmp K e tb o.op))) (HM all q.1)) o.guard
def Rw (tb:Tbl) (N K:Nat) (all l:List Oper):En→Cds:=List.rec (motive:=fun _=>En→Cds) (fun _=>⟨fun _ _ _ _ _ tm hp nx=> .go .nrm tm hp nx⟩) (fun o _ ih e=>Po tb N K all e o (dkS K o.dst) (ih (enS e o.dst))) l
def tj (tm:TM) (i:Nat) (u:U):TM:=Ac.rec (motive:=fun _=>U→TM→TM) (fun _ p=>p) (cq i) u tm
def wEx (v:V):Option W:=match v with
 | .agg cs=>Bool.rec (motive:=fun _=>Option W) none (some (.agg (ofL cs) cs.length)) (fZ cs)
 | .tup _=>none
 | v=>some (.c (Fs v))
def KJ:List V→Option (List W)
 | []=>some []
 | v::r=>match wEx v with
  | some w=>match KJ r with
   | some l=>some (w::l)
   | none=>none
  | none=>none
def uEx (v:V):Option U:=match v with
 | .agg cs=>Bool.rec (motive:=fun _=>Option U) none (some (.agg (ofL cs) cs.length)) (fZ cs)
 | .tup vs=>match KJ vs with
  | some l=>some (.tup l)
  | none=>none
 | .bool b=>some (.kb b)
 | .int k n=>some (.int k n)
 | .kb b=>some (.kb b)
 | .ptr h o=>some (.ptr h o)
 | .gp h v o=>some (.gp h v o)
 | .gsl h v e o l=>some (.gsl h v e o l)
 | v=>some (.oth v)
def vp (K:Nat) (tm:TM) (i:Nat):V:=(cX K en0 i u0 u0 u0 u0 tm).toV
def Cn (K:Nat) (all:List Oper) (tm:TM) (o:Oper):Option Bool:=
 match o.guard with
 | none=>some true
 | some (j,want)=>match all[j]? with
  | some oj=>match oj.dst with
   | some dj=>match vp K tm dj with
    | .kb b=>some (b==want)
    | .tup []=>some false
    | _=>none
   | none=>none
  | none=>none
def eM (K:Nat) (rs:List Nat) (tm:TM):Operand→V
 | .tmp t=>bif memN rs t then vp K tm t else .any
 | .const v=>cv v
 | .func f=> .fn f []
 | .global _=> .any
def y4 (N K:Nat) (d:Option Nat):Bool:=match d with
 | some d=>Nat.blt d N&&isK K d
 | none=>true
def lz (d:Option Nat) (u:U) (tm:TM):TM:=match d with
 | some d=>tj tm d u
 | none=>tm
def OE (c:C) (r:List Nat):List Nat:=C.rec (motive:=fun _=>List Nat) (fun _ _=>r) (fun _=>r) (fun h _=>h::r) (fun h _ _=>h::r) (fun h _ _ _ _=>h::r) (fun v=>v.hs++r) c
def hsT (t:CT) (n:Nat):Nat→List Nat:=Nat.rec (motive:=fun _=>Nat→List Nat) (fun _=> []) (fun _ ih i=>OE (bZ t i) (ih (Nat.succ i))) n
def xF (b:Bk):List Nat:=Bk.rec (motive:=fun _=>List Nat) [] (fun t n=>hsT t n 0) (fun _ _ t n=>hsT t n 0) (fun es=>hsE es) b
def Rh (b:Bk):Bool:=Bk.rec (motive:=fun _=>Bool) false (fun _ _=>true) (fun _ _ _ _=>true) (fun _=>true) b
def pn (hp:HP):Nat→List Nat→List Nat→List Nat
 | 0,_,acc=>acc
 | n+1,new,acc=>
  let add:=new.filter fun h=>!memN acc h
  let nxt:=add.flatMap fun h=>xF (aP hp h)
  match add with
  | []=>acc
  | _=>pn hp n nxt (add++acc)
def xy (hp:HP) (R:List Nat) (m K:Nat) (v:V) (dh:List (Nat×Blk)):Bool:=
 (R.all fun h=>bif Rh (aP hp h) then mm R m K (xF (aP hp h)) else false)&&(dh.all fun q=>mm R m K [q.1]&&mm R m K q.2.hs)&&mm R m K v.hs
def eqC (c d:C):Bool:=C.rec (motive:=fun _=>Bool)
 (fun k n=>C.rec (motive:=fun _=>Bool) (fun k' n'=>Bool.rec (motive:=fun _=>Bool) false (eqS n n') (OJ k k')) (fun _=>false) (fun _ _=>false) (fun _ _ _=>false) (fun _ _ _ _ _=>false) (fun _=>false) d)
 (fun b=>C.rec (motive:=fun _=>Bool) (fun _ _=>false) (fun b'=>Bool.rec (motive:=fun _=>Bool) (F5 b') b' b) (fun _ _=>false) (fun _ _ _=>false) (fun _ _ _ _ _=>false) (fun _=>false) d)
 (fun h o=>C.rec (motive:=fun _=>Bool) (fun _ _=>false) (fun _=>false) (fun h' o'=>Bool.rec (motive:=fun _=>Bool) false (Nat.beq o o') (Nat.beq h h')) (fun _ _ _=>false) (fun _ _ _ _ _=>false) (fun _=>false) d)
 (fun h v o=>C.rec (motive:=fun _=>Bool) (fun _ _=>false) (fun _=>false) (fun _ _=>false) (fun h' v' o'=>Bool.rec (motive:=fun _=>Bool) false (Bool.rec (motive:=fun _=>Bool) false (Nat.beq o o') (Nat.beq v v')) (Nat.beq h h')) (fun _ _ _ _ _=>false) (fun _=>false) d)
 (fun h v e o l=>C.rec (motive:=fun _=>Bool) (fun _ _=>false) (fun _=>false) (fun _ _=>false) (fun _ _ _=>false) (fun h' v' e' o' l'=>Bool.rec (motive:=fun _=>Bool) false (Bool.rec (motive:=fun _=>Bool) false (Bool.rec (motive:=fun _=>Bool) false (Bool.rec (motive:=fun _=>Bool) false (Nat.beq l l') (Nat.beq o o')) (Nat.beq e e')) (Nat.beq v v')) (Nat.beq h h')) (fun _=>false) d)
 (fun v=>C.rec (motive:=fun _=>Bool) (fun _ _=>false) (fun _=>false) (fun _ _=>false) (fun _ _ _=>false) (fun _ _ _ _ _=>false) (fun v'=>V.eqb v v') d) c
def eqT (t t':CT) (n:Nat):Nat→Bool:=Nat.rec (motive:=fun _=>Nat→Bool) (fun _=>true) (fun _ ih i=>Bool.rec (motive:=fun _=>Bool) false (ih (Nat.succ i)) (eqC (bZ t i) (bZ t' i))) n
def FK (b d:Bk):Bool:=Bk.rec (motive:=fun _=>Bool) (Bk.rec (motive:=fun _=>Bool) true (fun _ _=>false) (fun _ _ _ _=>false) (fun _=>false) d)
 (fun t n=>Bk.rec (motive:=fun _=>Bool) false (fun t' n'=>Bool.rec (motive:=fun _=>Bool) false (eqT t t' n 0) (Nat.beq n n')) (fun _ _ _ _=>false) (fun _=>false) d)
 (fun v e t n=>Bk.rec (motive:=fun _=>Bool) false (fun _ _=>false) (fun v' e' t' n'=>Bool.rec (motive:=fun _=>Bool) false (Bool.rec (motive:=fun _=>Bool) false (Bool.rec (motive:=fun _=>Bool) false (eqT t t' n 0) (Nat.beq n n')) (Nat.beq e e')) (Nat.beq v v')) (fun _=>false) d)
 (fun es=>Bk.rec (motive:=fun _=>Bool) false (fun _ _=>false) (fun _ _ _ _=>false) (fun es'=>FM es es') d) b
def iL:List Nat→(List Nat→Rv)→Rv
 | [],k=>k []
 | n::r,k=>bK n fun n=>iL r fun r=>k (n::r)
def sB (hp:HP):List Nat→HP→HP
 | [],t=>t
 | h::r,t=>sB hp r (cS t h (aP hp h))
def F0 (hp':HP):List Nat→HP→Option (HP×List (Nat×Blk))
 | [],hp=>some (hp,[])
 | h::r,hp=>match (aP hp' h).toB with
  | some b=>match F0 hp' r hp with
   | some (hp,dh)=>some (cS hp h (aP hp' h),(h,b)::dh)
   | none=>none
  | none=>none
def B6 (call:eD) (g:FuncId) (args:List U) (hp:HP) (R:List Nat) (m:Nat) (k:U→HP→List (Nat×Blk)→Nat→Rv):Rv:=
 match call g args (sB hp R hp0) m with
 | .ok u hp' nx=>iL (R.filter fun h=>!FK (aP hp h) (aP hp' h)) fun chg=>iL ((pn hp' 64 (u.toV.hs++chg) []).filter fun h=>!(memN R h&&!memN chg h)) fun keys=>
   bif chg.all (fun h=>memN keys h) then match F0 hp' keys hp with
    | some (hp,dh)=>k u hp dh nx
    | none=> .no [23]
   else .no [22]
 | .ex _ _ _=> .no [24]
 | .no w=> .no (g::w)
def EZ (all:List Oper) (o o':Oper):Bool:=qh o.dst.toList o'.dst.toList&&qh o.dst.toList (ak all o')&&qh o'.dst.toList (ak all o)
def E6 (ms:List Nat) (all:List Oper) (i:Nat) (o:Oper):Nat→List Oper→Bool
 | _,[]=>true
 | j,o'::os=>(((ms[j]?).getD 0).testBit i||EZ all o o')&&E6 ms all i o (j+1) os
def EX (ms:List Nat) (all:List Oper):Nat→List Oper→Bool
 | _,[]=>true
 | i,o::os=>E6 ms all i o (i+1) os&&EX ms all (i+1) os
def EY (all:List Oper):Bool:=cr 0 all&&EX (bD all []) all 0 all
def HC (r s:Rec):Bool:=qh (r.dh.map (·.1)) (s.dh.map (·.1))&&qh (r.dh.map (·.1)) s.R
def Gi (ms:List Nat) (i j:Nat):Bool:=Nat.beq i j ||(bif Nat.blt i j then ((ms[j]?).getD 0).testBit i else ((ms[i]?).getD 0).testBit j)
def HD (ms:List Nat) (i:Nat) (r:Rec):Nat→List Rec→Bool
 | _,[]=>true
 | j,s::ss=>(Gi ms i j||HC r s)&&HD ms i r (j+1) ss
def FH (ms:List Nat) (recs:List Rec):Nat→List Rec→Bool
 | _,[]=>true
 | i,r::rs=>(match r.dh with
  | []=>true
  | _::_=>HD ms i r 0 recs)&&FH ms recs (i+1) rs
abbrev Alt:=Option (Nat×(Blk→Bool))
def lkD (tb:Tbl) (ev:Operand→V) (op:Op):Option (Nat×TD×TD×V×Bool):=match op with
 | .lookup t x k ok=>match jf tb t with
  | some q=>match ev x with
   | .mpv h=>some (h,q.1,q.2,ev k,ok)
   | _=>none
  | none=>none
 | _=>none
def Pj (tk te:TD) (h0:Nat) (k:V) (ok:Bool) (v:V) (b:Blk):Bool:=match cc tk te (fun _=>some b) (.mpv h0) k ok with
 | .val _ v' _=>V.eqb v' v
 | _=>false
def GZ (ms:List Nat) (i h0:Nat) (okB:Blk→Bool):Nat→List Rec→Bool
 | _,[]=>true
 | j,s::ss=>(match find s.dh h0 with
  | none=>true
  | some b=>Nat.beq i j ||(bif Nat.blt j i then ((ms[i]?).getD 0).testBit j else ((ms[j]?).getD 0).testBit i||okB b))&&GZ ms i h0 okB (j+1) ss
def wB (ms:List Nat) (recs:List Rec):Nat→List Alt→Bool
 | _,[]=>true
 | i,none::r=>wB ms recs (i+1) r
 | i,some (h0,okB)::r=>GZ ms i h0 okB 0 recs&&wB ms recs (i+1) r
def kE (tb:Tbl) (N K:Nat) (call:eD) (all:List Oper):List Oper→TM→HP→Nat→List (Rec×Alt)→Rv
 | [],tm,hp,nx,recs=>bif EY all&&(FH (bD all []) (recs.reverse.map (·.1)) 0 (recs.reverse.map (·.1))&&wB (bD all []) (recs.reverse.map (·.1)) 0 (recs.reverse.map (·.2))) then .go .nrm tm hp nx else .no [30]
 | o::rest,tm,hp,nx,recs=>bif y4 N K o.dst then
   match Cn K all tm o with
   | some false=>bK (nx+1) fun nx=>kE tb N K call all rest (lz o.dst (.tup []) tm) hp nx ((⟨o.dst,.tup [],[],[],ak all o⟩,none)::recs)
   | some true=>iL (ak all o) fun rs=>match lkD tb (eM K rs tm) o.op with
    | some (h0,tk,te,k,ok)=>match cc tk te (hpH hp) (.mpv h0) k ok with
     | .val _ v _=>match uEx v with
      | some u=>bK (nx+1) fun nx=>kE tb N K call all rest (lz o.dst u tm) hp nx ((⟨o.dst,jk v,[],[],rs⟩,some (h0,Pj tk te h0 k ok v))::recs)
      | none=> .no [39,rest.length]
     | _=> .no [40,rest.length]
    | none=>bif nC (eM K rs tm) o.op then iL (o.op.operands.toList.flatMap fun x=>(eM K rs tm x).hs) fun R=>
     match re tb N nx (hpH hp) (eM K rs tm) o.op with
     | none=> .no [37,rest.length]
     | some (ps,v,dh)=>bif ps.all Ob.chk then match uEx v,sU dh hp with
       | some u,some hp'=>bK (nx+1) fun nx=>kE tb N K call all rest (lz o.dst u tm) hp' nx ((⟨o.dst,jk v,dh,R,rs⟩,none)::recs)
       | _,_=> .no [36,rest.length]
      else .no [38,rest.length]
    else iL (pn hp 8 (o.op.operands.toList.flatMap fun x=>(eM K rs tm x).hs) []) fun R=>
    match evA tb N nx (restr (hpH hp) R) (eM K rs tm) o.op with
    | .call g args=>B6 call g (args.map jQ) hp R nx fun u hp' dh nx2=>
      bif xy hp R nx (nx2+1 - nx) u.toV dh then
       bK (nx2+1) fun nx=>kE tb N K call all rest (lz o.dst u tm) hp' nx ((⟨o.dst,u.toV,dh,R,rs⟩,none)::recs)
      else .no [31,rest.length]
    | .plain none=> .no [33,rest.length]
    | .plain (some (ps,v,dh))=>bif ps.all Ob.chk&&xy hp R nx 1 v dh then match uEx v,sU dh hp with
      | some u,some hp'=>bK (nx+1) fun nx=>kE tb N K call all rest (lz o.dst u tm) hp' nx ((⟨o.dst,jk v,dh,R,rs⟩,none)::recs)
      | _,_=> .no [36,rest.length]
     else .no [32,rest.length]
   | none=> .no [34,rest.length]
  else .no [35,rest.length]
def My (r:Rv):KR→Rv:=Rv.rec (motive:=fun _=>KR→Rv) (fun e tm hp nx k=>Lf.rec (motive:=fun _=>Rv) (k tm hp nx) (fun id=> .go (.ext id) tm hp nx) (.go .ret tm hp nx) e) (fun w _=> .no w) r
def G7 (id:Nat) (r:Rv):Rv:=Rv.rec (motive:=fun _=>Rv) (fun e tm hp nx=>Lf.rec (motive:=fun _=>Rv) (.go .nrm tm hp nx) (fun i=>Bool.rec (motive:=fun _=>Rv) (.go (.ext i) tm hp nx) (.go .nrm tm hp nx) (Nat.beq i id)) (.go .ret tm hp nx) e) .no r
def IU (f:KR) (n:Nat):KR:=Nat.rec (motive:=fun _=>KR) (fun _ _ _=> .no [3]) (fun _ ih tm hp nx=>bK nx fun nx=>My (f tm hp nx) ih) n
structure Cd where
 run:eD→KR
def PD (tb:Tbl) (N K:Nat) (ops:List Oper):Cd:=Bool.rec (motive:=fun _=>Cd) ⟨fun _ _ _ _=> .no [103]⟩ ⟨Cds.run (Rw tb N K ops ops en0) u0 u0 u0 u0⟩ (HB N ops)
def D5 (K:Nat) (e:En) (i:Nat) (k:Gt→Cd):Cd:=
 Bool.rec (motive:=fun _=>Cd) (Bool.rec (motive:=fun _=>Cd) (Bool.rec (motive:=fun _=>Cd) (Bool.rec (motive:=fun _=>Cd) (Bool.rec (motive:=fun _=>Cd) (k fun _ _ _ _ _=>u0) (Ac.rec (motive:=fun _=>Cd) (fun g _=>k fun _ _ _ _ tm=>g tm) (cq i)) (isK K i))
  (k fun _ _ _ r _=>r) (Nat.beq e.e3 (Nat.succ i))) (k fun _ _ r _ _=>r) (Nat.beq e.e2 (Nat.succ i))) (k fun _ r _ _ _=>r) (Nat.beq e.e1 (Nat.succ i))) (k fun r _ _ _ _=>r) (Nat.beq e.e0 (Nat.succ i))
def QO (K:Nat) (c:Operand) (ix iy:Cd):Cd:=Operand.rec (motive:=fun _=>Cd) (fun i=>D5 K en0 i fun g=>⟨fun call tm hp nx=>uKb (g u0 u0 u0 u0 tm) (fun b=>Bool.rec (motive:=fun _=>Rv) (Cd.run iy call tm hp nx) (Cd.run ix call tm hp nx) b) (.no [4])⟩) (fun v=>⟨fun call tm hp nx=>uKb (jQ (cv v)) (fun b=>Bool.rec (motive:=fun _=>Rv) (Cd.run iy call tm hp nx) (Cd.run ix call tm hp nx) b) (.no [4])⟩) (fun _=>⟨fun _ _ _ _=> .no [4]⟩) (fun _=>⟨fun _ _ _ _=> .no [4]⟩) c
def fx (tb:Tbl) (N K:Nat) (c:Code):Cd:=Code.rec (motive:=fun _=>Cd)
 ⟨fun _ tm hp nx=> .go .nrm tm hp nx⟩
 (fun _ ops dr=>Bool.rec (motive:=fun _=>Cd) (PD tb N K ops.toList) ⟨fun call tm hp nx=>kE tb N K call ops.toList ops.toList tm hp nx []⟩ dr)
 (fun _ _ ia ib=>⟨fun call tm hp nx=>My (Cd.run ia call tm hp nx) (Cd.run ib call)⟩)
 (fun c _ _ ix iy=>QO K c ix iy)
 (fun id _ ib=>⟨fun call tm hp nx=>G7 id (Cd.run ib call tm hp nx)⟩)
 (fun _ ib=>⟨fun call=>IU (Cd.run ib call) iV⟩)
 (fun _ _ _ _ _ _=>⟨fun _ _ _ _=> .no [6]⟩)
 (fun id=>⟨fun _ tm hp nx=> .go (.ext id) tm hp nx⟩)
 (fun _ _=>⟨fun _ _ _ _=> .no [6]⟩)
 (fun _=>⟨fun _ _ _ _=> .no [6]⟩)
 (fun _=>⟨fun _ _ _ _=> .no [6]⟩)
 ⟨fun _ tm hp nx=> .go .ret tm hp nx⟩
 (fun _=>⟨fun _ _ _ _=> .no [6]⟩) c
def iJ (l:List U):Nat→TM→TM:=List.rec (motive:=fun _=>Nat→TM→TM) (fun _ tm=>tm) (fun u _ ih i tm=>ih (Nat.succ i) (tj tm i u)) l
def ldP (ld:LdF) (a:U) (hp:HP) (k:U→Rv) (sl:Rv):Rv:=DC a (fun h o=>bkC (aP hp h) (fun ct n=>ld ct n o k sl) sl) (fun _ _ _=>sl) sl
def EP (tb:Tbl) (K:Nat) (r:ResultVar):TM→HP→(U→Rv)→Rv→Rv:=ResultVar.rec (motive:=fun _=>TM→HP→(U→Rv)→Rv→Rv) (fun t tm _ k _=>k (cX K en0 t u0 u0 u0 u0 tm))
 (fun a t=>TI.rec (motive:=fun _=>TM→HP→(U→Rv)→Rv→Rv) (fun _ _ _ sl=>sl) (fun tm hp=>ldP Ah (cX K en0 a u0 u0 u0 u0 tm) hp) (fun n tm hp=>ldP (Ag n) (cX K en0 a u0 u0 u0 u0 tm) hp) (tyI tb t)) r
def wOf (u:U) (k:W→Rv) (sl:Rv):Rv:=uCA u (fun c=>k (.c c)) (fun t n=>k (.agg t n)) sl
def JU (tb:Tbl) (K:Nat) (l:List ResultVar):TM→HP→(List W→Rv)→Rv→Rv:=List.rec (motive:=fun _=>TM→HP→(List W→Rv)→Rv→Rv) (fun _ _ k _=>k []) (fun r _ ih tm hp k sl=>EP tb K r tm hp (fun u=>wOf u (fun w=>ih tm hp (fun l=>k (w::l)) sl) sl) sl) l
def RA (tb:Tbl) (K:Nat) (l:List ResultVar):TM→HP→(U→Rv)→Rv→Rv:=List.rec (motive:=fun _=>TM→HP→(U→Rv)→Rv→Rv) (fun _ _ k _=>k (.tup [])) (fun r rs _=>List.rec (motive:=fun _=>TM→HP→(U→Rv)→Rv→Rv) (EP tb K r) (fun _ _ _ tm hp k sl=>JU tb K l tm hp (fun l=>k (.tup l)) sl) rs) l
def Mu (tb:Tbl) (K:Nat) (rs:List ResultVar) (tm:TM) (hp:HP) (nx:Nat):Rv:=RA tb K rs tm hp (fun u=> .go .ret (tj tm0 0 u) hp nx) (.no [8])
def JW (r:Rv):Rf:=Rv.rec (motive:=fun _=>Rf) (fun _ tm hp nx=> .ok (Ac.rec (motive:=fun _=>TM→U) (fun g _=>g) (cq 0) tm) hp nx) .no r
def FJ (tb:Tbl) (K:Nat) (rs:List ResultVar) (r:Rv):Rf:=Rv.rec (motive:=fun _=>Rf) (fun e tm hp nx=>Lf.rec (motive:=fun _=>Rf) (JW (Mu tb K rs tm hp nx)) (fun _=> .no [7]) (JW (Mu tb K rs tm hp nx)) e) .no r
structure Fc where
 run:eD→List U→HP→Nat→Rf
def xz (tb:Tbl) (K:Nat) (fn:Func):Fc:=Option.rec (motive:=fun _=>Fc) ⟨fun _ _ _ _=> .no [10]⟩ (fun c=>Bool.rec (motive:=fun _=>Fc) ⟨fun _ _ _ _=> .no [14]⟩
 ⟨fun call args hp nx=>Bool.rec (motive:=fun _=>Rf) (.no [9]) (FJ tb K fn.results.toList (bK nx fun nx=>Cd.run (fx tb fn.ntmps K c) call (iJ args 0 tm0) hp nx)) (Nat.ble args.length fn.ntmps)⟩ (Nat.ble fn.ntmps 512)) fn.body
abbrev wu:=FuncId→Option (List U→Option U)
def HH (r:Option U) (hp:HP) (nx:Nat):Rf:=Option.rec (motive:=fun _=>Rf) (.no [13]) (fun u=> .ex u hp nx) r
def qj (tb:Tbl) (P:FuncId→Option Func) (X:wu) (KK:FuncId→Nat) (f:FuncId):Fc:=Option.rec (motive:=fun _=>Fc) (Option.rec (motive:=fun _=>Fc) ⟨fun _ _ _ _=> .no [12]⟩ (xz tb (KK f)) (P f)) (fun x=>⟨fun _ args hp nx=>HH (x args) hp nx⟩) (X f)
def uq (tb:Tbl) (P:FuncId→Option Func) (X:wu) (KK:FuncId→Nat) (d:Nat):eD:=Nat.rec (motive:=fun _=>eD) (fun _ _ _ _=> .no [11]) (fun _ ih f args hp nx=>Fc.run (qj tb P X KK f) ih args hp nx) d
def Iv (l:List UInt8):Nat→Nat→Int:=List.rec (motive:=fun _=>Nat→Nat→Int) (fun _ _=> .negSucc 0) (fun b _ ih c i=>Bool.rec (motive:=fun _=>Int) (ih c (Nat.succ i)) (.ofNat i) (Nat.beq b.toNat c)) l
def ixB (l:List U):Option U:=match l with
 | [.oth (.str s),.int .u8 (.ofNat c)]=>some (.int .i64 (Iv s.data.toList c 0))
 | _=>none
end
end Go.Mir
namespace Go.Mir
open Go.RowKit
theorem zJ (v:V):v.isOne=v.one:=by cases v <;> rfl
theorem uf :∀ l:List V,BP l=l.all V.one
 | []=>rfl
 | v::l=>by
  show (Bool.rec (motive:=fun _=>Bool) false (BP l) v.isOne:Bool)=_
  rw [zJ,uf l,List.all_cons]
  cases v.one <;> rfl
theorem aw {a b:Nat} (h:Nat.beq a b=true):a=b:=Nat.eq_of_beq_eq_true h
theorem BT {a b:Nat} (h:a≤b):Nat.ble a b=true:=by rw [Nat.ble_eq];exact h
theorem aX {a b:Nat} (h:Nat.ble a b=true):a≤b:=Nat.le_of_ble_eq_true h
theorem Pi {l:List V} (h:fZ l=true):l.length≤4096∧∀ v∈l,v.one=true:=by
 unfold fZ at h
 rw [uf] at h
 cases hb:l.all V.one with
 | false=>rw [hb] at h;cases h
 | true=>
  rw [hb] at h
  have h:Nat.ble l.length LM=true:=h
  exact ⟨aX h,fun v hv=>List.all_eq_true.1 hb v hv⟩
theorem mM (t:CT) (i:Nat):bZ t i =(tA i).get t:=rfl
theorem pF (t:CT) (i:Nat) (x:C):dD t i x =(tA i).put x t:=rfl
theorem jo (t:HP) (i:Nat):aP t i =(yH i).get t:=rfl
theorem mL (t:HP) (i:Nat) (x:Bk):cS t i x =(yH i).put x t:=rfl
theorem ny {h:Nat} (hl:h<262144):yH h=wA h:=by
 unfold yH
 have:Nat.ble (Nat.succ h) 262144=true:=BT hl
 rw [this]
theorem DI {h:Nat} (hl :¬ h<262144):yH h =⟨fun _=> .none,fun _ s=>s⟩:=by
 unfold yH
 cases hb:Nat.ble (Nat.succ h) 262144 with
 | true=>exact absurd (aX hb) hl
 | false=>rfl
theorem uv (t:CT) (i:Nat) (x:C):bZ (dD t i x) i=x:=by rw [mM,pF,Fh]
theorem DQ {i j:Nat} (hi:i<4096) (hj:j<4096) (h:i≠j) (t:CT) (x:C):bZ (dD t i x) j=bZ t j:=by rw [mM,pF,KS hi hj h,mM]
theorem ow {hp:HP} {h:Nat} (hl :¬ h<262144):aP hp h = .none:=by rw [jo,DI hl]
theorem qN {hp:HP} {h:Nat} (hl:h<262144) (b:Bk):aP (cS hp h b) h=b:=by rw [jo,mL,ny hl,Fi]
theorem BV {hp:HP} {h j:Nat} (hl:h<262144) (hj:h≠j) (b:Bk):aP (cS hp h b) j=aP hp j:=by
 by_cases hjl:j<262144
 ·rw [jo,mL,ny hl,ny hjl,KT hl hjl hj,jo,ny hjl]
 ·rw [ow hjl,ow hjl]
structure CsR (t:CT) (n:Nat) (cs:List V):Prop where
 len:cs.length=n
 le:n≤4096
 get :∀ i,i<n→cs[i]?=some (bZ t i).toV
 one :∀ v∈cs,v.one=true
theorem BB (t:CT) :∀ n i,(tp t n i).length=n
 | 0,_=>rfl
 | n+1,i=>by simp only [tp,List.length_cons,BB t n]
theorem BA (t:CT) :∀ n i j,j<n→(tp t n i)[j]?=some (bZ t (i+j)).toV
 | n+1,i,0,_=>by simp only [tp,List.getElem?_cons_zero];rfl
 | n+1,i,j+1,h=>by
  simp only [tp,List.getElem?_cons_succ]
  rw [BA t n (i+1) j (by omega),show i+1+j=i +(j+1) by omega]
theorem CsR.toL {t:CT} {n:Nat} {cs:List V} (h:CsR t n cs):toL t n=cs:=by
 apply List.ext_getElem?
 intro j
 unfold Mir.toL
 rcases Nat.lt_or_ge j n with hj|hj
 ·rw [BA t n 0 j hj,Nat.zero_add,h.get j hj]
 ·rw [List.getElem?_eq_none (by rw [BB];exact hj),List.getElem?_eq_none (by rw [h.len];exact hj)]
theorem CsR.nil (t:CT):CsR t 0 []:=⟨rfl,by omega,fun i h=>by omega,fun v hv=>by cases hv⟩
theorem CsR.put {t:CT} {n:Nat} {cs:List V} (h:CsR t n cs) {i:Nat} (hi:i<n) {x:C} (hv:x.toV.one=true):CsR (dD t i x) n (cs.set i x.toV):=by
 have hle:=h.le
 refine ⟨by rw [List.length_set,h.len],hle,fun j hj=>?_,fun x hx=>?_⟩
 ·rw [List.getElem?_set]
  by_cases e:i=j
  ·subst e
   rw [if_pos rfl,if_pos (by rw [h.len];exact hi),uv]
  ·rw [if_neg e,h.get j hj,DQ (by omega) (by omega) e]
 ·rcases List.mem_or_eq_of_mem_set hx with h1|h1
  ·exact h.one x h1
  ·rw [h1];exact hv
theorem CsR.push {t:CT} {n:Nat} {cs:List V} (h:CsR t n cs) (hn:n<4096) {x:C} (hv:x.toV.one=true):CsR (dD t n x) (n+1) (cs++[x.toV]):=by
 have hl:=h.len
 refine ⟨by simp [h.len],by omega,fun j hj=>?_,fun x hx=>?_⟩
 ·by_cases e:n=j
  ·subst e
   rw [uv,List.getElem?_append_right (by omega),hl,Nat.sub_self]
   rfl
  ·rw [List.getElem?_append_left (by omega),h.get j (by omega),DQ hn (by omega) e]
 ·rcases List.mem_append.1 hx with h1|h1
  ·exact h.one x h1
  ·rw [List.mem_singleton.1 h1];exact hv
theorem yR (v:V) :(Fs v).toV=v:=by cases v <;> rfl
theorem Aw :∀ (l:List V) (i:Nat) (t:CT) (n:Nat) (cs:List V),CsR t n cs→n=i→n+l.length≤4096→(∀ v∈l,v.one=true)→CsR (Pg l i t) (n+l.length) (cs++l)
 | [],i,t,n,cs,h,_,_,_=>by simpa [Pg] using h
 | v::l,i,t,n,cs,h,e,hle,hl=>by
  subst e
  simp only [List.length_cons] at hle
  have h1:=h.push (by omega) (x:=Fs v) (by rw [yR];exact hl v List.mem_cons_self)
  rw [yR] at h1
  have:=Aw l (n+1) (dD t n (Fs v)) (n+1) (cs++[v]) h1 rfl (by omega) (fun x hx=>hl x (List.mem_cons_of_mem _ hx))
  rw [List.append_assoc,show n+1+l.length=n +(v::l).length by simp;omega] at this
  exact this
theorem CsR.ofL {l:List V} (h:fZ l=true):CsR (ofL l) l.length l:=by
 obtain ⟨h1,h2⟩:=Pi h
 have:=Aw l 0 ct0 0 [] (.nil _) rfl (by omega) h2
 simpa [Mir.ofL] using this
theorem Fz (dst:CT) (d:Nat) (src:CT) (s n:Nat):oB dst d src s (n+1)=dD (oB dst d src s n) (d+n) (bZ src (s+n)):=rfl
def AL (cs:List V) (d:Nat) (xs:List V):List V:=cs.take d++xs++cs.drop (d+xs.length)
theorem sx {cs:List V} {d:Nat} {xs:List V} (hd:d≤cs.length) (j:Nat) :(AL cs d xs)[j]?=if d≤j∧j<d+xs.length then xs[j - d]? else cs[j]?:=by
 unfold AL
 rcases Nat.lt_or_ge j d with h|h
 ·rw [if_neg (by omega),List.append_assoc,List.getElem?_append_left (by rw [List.length_take];omega),List.getElem?_take_of_lt h]
 ·rcases Nat.lt_or_ge j (d+xs.length) with h2|h2
  ·rw [if_pos ⟨h,h2⟩,List.append_assoc,List.getElem?_append_right (by rw [List.length_take];omega),List.length_take,Nat.min_eq_left hd,List.getElem?_append_left (by omega)]
  ·rw [if_neg (by omega),List.getElem?_append_right (by rw [List.length_append,List.length_take];omega),List.length_append,List.length_take,Nat.min_eq_left hd,List.getElem?_drop]
   congr 1
   omega
theorem CsR.cpy {dst src:CT} {n m:Nat} {cs xs:List V} (hd:CsR dst n cs) (hs:CsR src m xs) {d s:Nat} (h1:d≤n) :∀ k,s+k≤m→d+k≤4096→∃ r,r=AL cs d ((xs.drop s).take k)∧CsR (oB dst d src s k) (max n (d+k)) r
 | 0,_,_=>by
  refine ⟨_,rfl,?_⟩
  have:AL cs d ((xs.drop s).take 0)=cs:=by simp [AL]
  rw [this,Nat.max_eq_left (by omega)]
  exact hd
 | k+1,h2,h3=>by
  obtain ⟨r,hr,hk⟩:=CsR.cpy (dst:=dst) (src:=src) (n:=n) (m:=m) (cs:=cs) (xs:=xs) (d:=d) (s:=s) hd hs h1 k (by omega) (by omega)
  refine ⟨_,rfl,?_⟩
  rw [Fz]
  have hsl:=hs.len
  have hdl:=hd.len
  have hc:=hs.get (s+k) (by omega)
  have hone :(bZ src (s+k)).toV.one=true:=hs.one _ (List.mem_of_getElem? hc)
  have hlk :((xs.drop s).take k).length=k:=by rw [List.length_take,List.length_drop,hs.len];omega
  have hlk1 :((xs.drop s).take (k+1)).length=k+1:=by rw [List.length_take,List.length_drop,hs.len];omega
  have hl:r.length=max n (d+k):=hk.len
  have key:AL cs d ((xs.drop s).take (k+1))=if d+k<r.length then r.set (d+k) (bZ src (s+k)).toV else r++[(bZ src (s+k)).toV]:=by
   have hj :∀ j,r[j]?=if d≤j∧j<d+k then ((xs.drop s).take k)[j - d]? else cs[j]?:=fun j=>by rw [hr,sx (by rw [hd.len];exact h1),hlk]
   have hnew :((xs.drop s).take (k+1))[k]?=some (bZ src (s+k)).toV:=by rw [List.getElem?_take_of_lt (by omega),List.getElem?_drop];exact hc
   have hold :∀ i,i<k→((xs.drop s).take (k+1))[i]? =((xs.drop s).take k)[i]?:=fun i hi=>by rw [List.getElem?_take_of_lt (by omega),List.getElem?_take_of_lt hi]
   split
   ·rename_i hlt
    apply List.ext_getElem?
    intro j
    rw [sx (by rw [hd.len];exact h1),hlk1,List.getElem?_set]
    by_cases e:d+k=j
    ·subst e
     rw [if_pos (by omega),if_pos rfl,if_pos hlt,show d+k - d=k by omega]
     exact hnew
    ·rw [if_neg e,hj]
     by_cases e2:d≤j∧j<d+k
     ·rw [if_pos (by omega),if_pos e2,hold _ (by omega)]
     ·rw [if_neg (by omega),if_neg e2]
   ·rename_i hge
    have hrl:r.length=d+k:=by omega
    apply List.ext_getElem?
    intro j
    rw [sx (by rw [hd.len];exact h1),hlk1]
    rcases Nat.lt_or_ge j (d+k) with h|h
    ·rw [List.getElem?_append_left (by omega),hj]
     by_cases e2:d≤j
     ·rw [if_pos (by omega),if_pos ⟨e2,h⟩,hold _ (by omega)]
     ·rw [if_neg (by omega),if_neg (by omega)]
    ·rw [List.getElem?_append_right (by omega),hrl]
     by_cases e:j=d+k
     ·subst e
      rw [if_pos (by omega),show d+k - d=k by omega,hnew,Nat.sub_self]
      rfl
     ·rw [if_neg (by omega),List.getElem?_eq_none (by rw [hd.len];omega),List.getElem?_eq_none (by simp;omega)]
  rw [key]
  split
  ·rename_i hlt
   rw [show max n (d +(k+1))=max n (d+k) by omega]
   exact hk.put (by rw [←hl];exact hlt) hone
  ·rename_i hge
   have e:max n (d+k)=d+k:=by omega
   rw [e] at hk
   rw [show max n (d +(k+1))=d+k+1 by omega]
   exact hk.push (by omega) hone
theorem CsR.sub {src:CT} {m:Nat} {xs:List V} (hs:CsR src m xs) {s k:Nat} (h:s+k≤m):CsR (oB ct0 0 src s k) k ((xs.drop s).take k):=by
 have hle:=hs.le
 obtain ⟨r,hr,h1⟩:=CsR.cpy (.nil ct0) hs (d:=0) (Nat.le_refl 0) k h (by omega)
 have e:r =(xs.drop s).take k:=by rw [hr];simp [AL]
 rw [e,Nat.zero_add,Nat.max_eq_right (Nat.zero_le k)] at h1
 exact h1
theorem CsR.splice {dst src:CT} {n m:Nat} {cs xs:List V} (hd:CsR dst n cs) (hs:CsR src m xs) {d k:Nat} (h1:d+k≤n) (h2:k=m):CsR (oB dst d src 0 k) n (splice cs d xs):=by
 have hle:=hd.le
 obtain ⟨r,hr,h3⟩:=CsR.cpy hd hs (d:=d) (s:=0) (by omega) k (by omega) (by omega)
 have e:r=Mir.splice cs d xs:=by
  rw [hr,List.drop_zero,List.take_of_length_le (by rw [hs.len];omega)]
  rfl
 rw [e,Nat.max_eq_left h1] at h3
 exact h3
theorem CsR.app {dst src:CT} {n m:Nat} {cs xs:List V} (hd:CsR dst n cs) (hs:CsR src m xs) {s k:Nat} (h:s+k≤m) (h4:n+k≤4096):CsR (oB dst n src s k) (n+k) (cs ++(xs.drop s).take k):=by
 obtain ⟨r,hr,h3⟩:=CsR.cpy hd hs (d:=n) (s:=s) (Nat.le_refl n) k h h4
 have e:r=cs ++(xs.drop s).take k:=by
  rw [hr]
  unfold AL
  have h5:=hd.len
  have:cs.drop (n +((xs.drop s).take k).length)=[]:=List.drop_eq_nil_of_le (by omega)
  rw [List.take_of_length_le (by omega),this,List.append_nil]
 rw [e,Nat.max_eq_right (by omega)] at h3
 exact h3
theorem sT {cs:List V} {i:Nat} {v:V} (h:i<cs.length):cs.set i v=splice cs i [v]:=by
 unfold splice
 rw [List.set_eq_take_append_cons_drop,if_pos h]
 simp
def W.wf:W→Prop
 | .c _=>True
 | .agg t n=>∃ cs,CsR t n cs
def U.wf:U→Prop
 | .agg t n=>∃ cs,CsR t n cs
 | .tup l=>∀ w∈l,w.wf
 | _=>True
def Bk.wf:Bk→Prop
 | .cells t n=>∃ cs,CsR t n cs
 | .grow _ _ t n=>∃ cs,CsR t n cs
 | _=>True
def hpW (hp:HP):Prop:=∀ h,(aP hp h).wf
theorem fO {hp:HP} {h:Nat} (hl:h<262144) {b:Bk} {B:Blk} (hb:b.toB=some B):hpH (cS hp h b)=an (hpH hp) [(h,B)]:=by
 funext k
 unfold hpH an
 simp only [find]
 by_cases e:h=k
 ·subst e
  rw [qN hl,Nat.beq_refl,hb]
  rfl
 ·rw [BV hl e]
  have:Nat.beq h k=false:=by
   cases hb:Nat.beq h k with
   | false=>rfl
   | true=>exact absurd (aw hb) e
  rw [this]
  rfl
theorem fP {hp:HP} (h:hpW hp) {k:Nat} (hl:k<262144) {b:Bk} (hb:b.wf):hpW (cS hp k b):=fun j=>by
 by_cases e:k=j
 ·subst e;rw [qN hl];exact hb
 ·rw [BV hl e];exact h j
theorem xE (h:Nat):aP hp0 h = .none:=by
 by_cases hl:h<262144
 ·rw [jo,ny hl];exact GX _ _
 ·exact ow hl
theorem Ik:hpW hp0:=fun h=>by rw [xE];trivial
theorem M7:hpH hp0=fun _=>none:=by funext h;unfold hpH;rw [xE];rfl
theorem BU {hp:HP} {h:Nat} (hb:aP hp h≠ .none):h<262144:=by
 by_cases hl:h<262144
 ·exact hl
 ·exact absurd (ow hl) hb
def VLe (v w:V):Prop:=∀ (E:Env) (x:Value),aa E v x→aa E w x
theorem VLe.refl (v:V):VLe v v:=fun _ _ h=>h
theorem VLe.of_eq {v w:V} (h:v=w):VLe v w:=h▸VLe.refl v
theorem VLe.trans {u v w:V} (h:VLe u v) (k:VLe v w):VLe u w:=fun E x q=>k E x (h E x q)
theorem VLe.any (v:V):VLe v .any:=fun _ _ _=>by simp [aa]
theorem Iz (b:Bool):VLe (.bool b) (.kb b):=fun E x h=>by simpa [aa] using h
theorem NW (cs:List V) :(Bool.rec (motive:=fun _=>U) (.oth .any) (.agg (ofL cs) cs.length) (fZ cs):U).wf:=by
 cases h:fZ cs with
 | false=>trivial
 | true=>exact ⟨cs,CsR.ofL h⟩
theorem MR (cs:List V) :(Bool.rec (motive:=fun _=>W) (.c (.oth .any)) (.agg (ofL cs) cs.length) (fZ cs):W).wf:=by
 cases h:fZ cs with
 | false=>trivial
 | true=>exact ⟨cs,CsR.ofL h⟩
theorem kC (v:V) :(jQ v).wf:=by
 cases v <;> first|exact trivial|exact NW _|skip
 rename_i vs
 intro w hw
 obtain ⟨v,_,rfl⟩:=List.mem_map.1 hw
 cases v <;> first|exact trivial|exact MR _
theorem NV (cs:List V):VLe (.agg cs) (Bool.rec (motive:=fun _=>U) (.oth .any) (.agg (ofL cs) cs.length) (fZ cs):U).toV:=by
 cases h:fZ cs with
 | false=>exact VLe.any _
 | true=>
  show VLe _ (V.agg (toL (ofL cs) cs.length))
  rw [(CsR.ofL h).toL]
  exact VLe.refl _
theorem MQ (cs:List V):VLe (.agg cs) (Bool.rec (motive:=fun _=>W) (.c (.oth .any)) (.agg (ofL cs) cs.length) (fZ cs):W).toV:=by
 cases h:fZ cs with
 | false=>exact VLe.any _
 | true=>
  show VLe _ (V.agg (toL (ofL cs) cs.length))
  rw [(CsR.ofL h).toL]
  exact VLe.refl _
theorem oq {E:Env} {α:Type} (f g:α→V) (h :∀ v,VLe (f v) (g v)) :∀ (vs:List α) (l:List Value),ab E (vs.map f) l→ab E (vs.map g) l
 | [],l,hl=>hl
 | v::vs,[],hl=>by simp [ab] at hl
 | v::vs,x::l,hl=>by
  simp only [List.map_cons,ab] at hl ⊢
  exact ⟨h v E x hl.1,oq f g h vs l hl.2⟩
theorem kB (v:V):VLe v (jQ v).toV:=by
 cases v <;> first|exact VLe.refl _|exact Iz _|exact NV _|skip
 rename_i vs
 intro E x hx
 simp only [jQ,U.toV,aa] at hx ⊢
 obtain ⟨l,rfl,hl⟩:=hx
 refine ⟨l,rfl,?_⟩
 rw [List.map_map]
 have hl:ab E (vs.map fun v=>v) l.toList:=by simpa using hl
 refine oq _ _ (fun v=>?_) vs l.toList hl
 cases v <;> first|exact VLe.refl _|exact Iz _|exact MQ _
section views
variable {G:Rv→Prop} {sl:Rv} (h0:G sl)
include h0
theorem mU {u:U} {f:IntKind→Int→Rv} (h :∀ k n,u = .int k n→G (f k n)):G (BD u f sl):=by cases u <;> first|exact h0|exact h _ _ rfl
theorem M5 {u:U} {f:Bool→Rv} (h :∀ b,u = .kb b→G (f b)):G (uKb u f sl):=by cases u <;> first|exact h0|exact h _ rfl
theorem oP {u:U} {f:Nat→Nat→Rv} {g:Nat→Nat→Nat→Rv} (h :∀ a o,u = .ptr a o→G (f a o)) (h' :∀ a v o,u = .gp a v o→G (g a v o)):G (DC u f g sl):=by
 cases u <;> first|exact h0|exact h _ _ rfl|exact h' _ _ _ rfl
theorem HQ {u:U} {k:Nat→Nat→Nat→Nat→Nat→Rv} (h :∀ a v e o l,u = .gsl a v e o l→G (k a v e o l)):G (Ql u k sl):=by cases u <;> first|exact h0|exact h _ _ _ _ _ rfl
theorem D3 {u:U} {a b:Rv} {k:Nat→Nat→Nat→Nat→Nat→Rv} (h:u = .oth .nilsl→G a) (h':u = .oth .esl→G b) (h2 :∀ a v e o l,u = .gsl a v e o l→G (k a v e o l)):G (uSl u a b k sl):=by
 cases u with
 | oth v=>cases v <;> first|exact h0|exact h rfl|exact h' rfl
 | gsl=>exact h2 _ _ _ _ _ rfl
 | _=>exact h0
theorem Q0 {u:U} {k:FuncId→List V→Rv} (h :∀ f cs,u = .oth (.fn f cs)→G (k f cs)):G (uFn u k sl):=by
 cases u with
 | oth v=>cases v <;> first|exact h0|exact h _ _ rfl
 | _=>exact h0
theorem bR {b:Bool} {r:Rv} (h:b=true→G r):G (ckR b r sl):=by
 cases b with
 | true=>exact h rfl
 | false=>exact h0
theorem HR {v:V} {r:Rv} (h:v.one=true→G r):G (MP v r sl):=by
 unfold MP
 rw [zJ]
 cases hv:v.one with
 | true=>exact h hv
 | false=>exact h0
theorem Sn {u:U} {k:C→Rv} (h :∀ c,c.toV=u.toV→c.toV.one=true→G (k c)):G (uC u k sl):=by
 cases u with
 | oth v=>exact HR h0 fun hv=>h _ rfl hv
 | agg=>exact h0
 | tup=>exact h0
 | _=>exact h _ rfl rfl
theorem Cl {u:U} {k:CT→Nat→Rv} (h :∀ t n,u = .agg t n→G (k t n)):G (MO u k sl):=by cases u <;> first|exact h0|exact h _ _ rfl
theorem Ox {u:U} {k:List W→Rv} (h :∀ l,u = .tup l→G (k l)):G (RZ u k sl):=by cases u <;> first|exact h0|exact h _ rfl
theorem HO {u:U} {k:C→Rv} {k2:CT→Nat→Rv} (h :∀ c,c.toV=u.toV→c.toV.one=true→G (k c)) (h' :∀ t n,u = .agg t n→G (k2 t n)):G (uCA u k k2 sl):=by
 cases u with
 | oth v=>exact HR h0 fun hv=>h _ rfl hv
 | agg=>exact h' _ _ rfl
 | tup=>exact h0
 | _=>exact h _ rfl rfl
theorem HN {b:Bk} {k:CT→Nat→Rv} (h :∀ t n,b = .cells t n→G (k t n)):G (bkC b k sl):=by cases b <;> first|exact h0|exact h _ _ rfl
theorem pM {b:Bk} {k:Nat→Nat→CT→Nat→Rv} (h :∀ v e t n,b = .grow v e t n→G (k v e t n)):G (bkG b k sl):=by cases b <;> first|exact h0|exact h _ _ _ _ rfl
theorem D2 {n:Int} {k:Nat→Rv} (h :∀ m:Nat,n = .ofNat m→G (k m)):G (JH n k sl):=by
 cases n with
 | ofNat m=>exact h m rfl
 | negSucc m=>exact h0
theorem M3 {a b:Int} {f:Nat→Nat→Rv} (h :∀ x y:Nat,a = .ofNat x→b = .ofNat y→G (f x y)):G (Pd a b f sl):=by
 cases a <;> cases b <;> first|exact h0|exact h _ _ rfl rfl
end views
theorem cu {n:Nat} {k:Nat→Rv}:bK n k=k n:=by cases n <;> rfl
theorem O9 (k:IntKind) :(mxK k:Int)=k.max:=by cases k <;> decide
theorem MU {k:IntKind} {n:Int} (h1:0≤n) (h2:n≤k.max):k.wrap n=n:=by
 cases k <;> simp only [IntKind.wrap,IntKind.bits,IntKind.signed,IntKind.max] at h2 ⊢ <;> simp at h2 ⊢ <;> omega
theorem nK {k:IntKind} {n:Nat} {m:Int} (h:m =(n:Int)):xr k n (k.wrap m)=k.wrap m:=by
 unfold xr
 cases hb:Nat.ble n (mxK k) with
 | false=>rfl
 | true=>
  have:=aX hb
  rw [h,MU (by omega) (by rw [←O9];omega)]
  rfl
theorem KV (k:IntKind) (a b:Int):NU k a b=k.wrap (a+b):=by
 cases a <;> cases b <;> first|rfl|exact nK rfl
theorem MF (k:IntKind) (a b:Int):Qb k a b=k.wrap (a - b):=by
 cases a <;> cases b <;> first|rfl|skip
 rename_i x y
 show Bool.rec (motive:=fun _=>Int) _ _ (Nat.ble y x)=_
 cases hb:Nat.ble y x with
 | false=>rfl
 | true=>
  have:=aX hb
  exact nK (by show (x:Int) - (y:Int) =((x - y:Nat):Int);omega)
theorem LP (k:IntKind) (a b:Int):O8 k a b=k.wrap (a*b):=by
 cases a <;> cases b <;> first|rfl|exact nK rfl
theorem Oj (k:IntKind) (a:Int):cvS k a=k.wrap a:=by
 cases a <;> first|rfl|exact nK rfl
theorem Cc (a b:Int):eqS a b =(a==b):=by
 cases a <;> cases b <;> first|rfl|skip
 rename_i x y
 show Nat.beq x y =((x:Int) ==(y:Int))
 cases hb:Nat.beq x y with
 | true=>rw [aw hb];simp
 | false=>
  have :¬ x=y:=fun e=>by subst e;rw [Nat.beq_refl] at hb;cases hb
  symm
  rw [beq_eq_false_iff_ne]
  intro e
  exact this (by omega)
theorem IK (a b:Int):leS a b=decide (a≤b):=by
 cases a <;> cases b <;> first|rfl|skip
 rename_i x y
 show Nat.ble x y=decide ((x:Int)≤(y:Int))
 cases hb:Nat.ble x y with
 | true=>have:=aX hb;symm;rw [decide_eq_true_eq];omega
 | false=>
  have :¬ x≤y:=fun e=>by rw [BT e] at hb;cases hb
  symm;rw [decide_eq_false_iff_not];omega
theorem IV (a b:Int):ltS a b=decide (a<b):=by
 cases a <;> cases b <;> first|rfl|skip
 rename_i x y
 show Nat.ble (Nat.succ x) y=decide ((x:Int) <(y:Int))
 cases hb:Nat.ble (Nat.succ x) y with
 | true=>have:=aX hb;symm;rw [decide_eq_true_eq];omega
 | false=>
  have :¬ Nat.succ x≤y:=fun e=>by rw [BT e] at hb;cases hb
  symm;rw [decide_eq_false_iff_not];omega
theorem Ee {k k':IntKind} (h:OJ k k'=true):k=k':=by
 cases k <;> cases k' <;> first|rfl|cases h
theorem Ex (b:Bool):F5 b=!b:=by cases b <;> rfl
end Go.Mir
namespace Go.Mir
open Go.RowKit
variable {tb:Tbl} {N K:Nat} {e:En}
structure ValOK (tb:Tbl) (N:Nat) (ev:Operand→V) (op:Op) (hp:HP) (nx:Nat) (u:U) (hp':HP):Prop where
 ex :∃ ps v dh,ay ⟨tb,fun _=>none,1,N⟩ nx (hpH hp) ev op=some (ps,v,dh)∧(∀ p∈ps,p.holds)∧VLe v u.toV∧hpH hp'=an (hpH hp) dh
 wf:u.wf
 hw:hpW hp'
structure CalOK (ev:Operand→V) (op:Op) (g:FuncId) (args:List U):Prop where
 ex :∃ c f caps,op = .call c∧c.callee = .value f∧ev f = .fn g caps∧bP caps=true∧∀ E l,ab E (c.args.toList.map ev++caps) l→ab E (args.map U.toV) l
 wf :∀ u∈args,u.wf
def aV (tb:Tbl) (N K:Nat) (e:En) (op:Op):Stp→Prop
 | .slow=>True
 | .val f=>∀ (a b c d:U) (tm:TM) (hp:HP) (nx:Nat) (G:Rv→Prop) (k:U→Rv) (sl:Rv),(∀ i,(cX K e i a b c d tm).wf)→hpW hp→G sl→
   (∀ u,ValOK tb N (fun x=>(rdS K e x a b c d tm).toV) op hp nx u hp→G (k u))→G (f a b c d tm hp nx k sl)
 | .mem f=>∀ (a b c d:U) (tm:TM) (hp:HP) (nx:Nat) (G:Rv→Prop) (k:U→HP→Rv) (sl:Rv),(∀ i,(cX K e i a b c d tm).wf)→hpW hp→G sl→
   (∀ u hp',ValOK tb N (fun x=>(rdS K e x a b c d tm).toV) op hp nx u hp'→G (k u hp'))→G (f a b c d tm hp nx k sl)
 | .cal f=>∀ (a b c d:U) (tm:TM) (G:Rv→Prop) (k:FuncId→List U→Rv) (sl:Rv),(∀ i,(cX K e i a b c d tm).wf)→G sl→
   (∀ g args,CalOK (fun x=>(rdS K e x a b c d tm).toV) op g args→G (k g args))→G (f a b c d tm k sl)
theorem eB :∀ p∈([]:List Ob),p.holds:=fun p hp=>by cases hp
theorem oa {p:Ob} (h:p.holds) :∀ q∈ [p],q.holds:=by intro q hq;rw [List.mem_singleton.1 hq];exact h
theorem vok {ev:Operand→V} {op:Op} {hp:HP} {nx:Nat} {u:U} {ps:List Ob} {v:V} (W:hpW hp) (h:ay ⟨tb,fun _=>none,1,N⟩ nx (hpH hp) ev op=some (ps,v,[])) (hps :∀ p∈ps,p.holds) (hv:VLe v u.toV) (hw:u.wf):ValOK tb N ev op hp nx u hp:=
 ⟨⟨ps,v,[],h,hps,hv,rfl⟩,hw,W⟩
theorem jE {a b c d:U} {tm:TM} (h :∀ i,(cX K e i a b c d tm).wf) (x:Operand) :(rdS K e x a b c d tm).wf:=by
 cases x with
 | tmp i=>exact h i
 | const v=>exact kC (cv v)
 | _=>trivial
theorem tvp {u:U} {a o:Nat} (h:u = .ptr a o):u.toV = .ptr a o:=by rw [h];rfl
theorem tvg {u:U} {a v o:Nat} (h:u = .gp a v o):u.toV = .gp a v o:=by rw [h];rfl
theorem tvs {u:U} {a v e o l:Nat} (h:u = .gsl a v e o l):u.toV = .gsl a v e o l:=by rw [h];rfl
theorem tvi {u:U} {k:IntKind} {n:Int} (h:u = .int k n):u.toV = .int k n:=by rw [h];rfl
theorem tvb {u:U} {b:Bool} (h:u = .kb b):u.toV = .kb b:=by rw [h];rfl
theorem tvo {u:U} {v:V} (h:u = .oth v):u.toV=v:=by rw [h];rfl
theorem tva {u:U} {t:CT} {n:Nat} {cs:List V} (hc:CsR t n cs) (h:u = .agg t n):u.toV = .agg cs:=by rw [h];show V.agg (toL t n)=_;rw [hc.toL]
theorem tvt {u:U} {l:List W} (h:u = .tup l):u.toV = .tup (l.map W.toV):=by rw [h];rfl
theorem HY {S:Stp→Prop} {i:Nat} {k:Gt→Stp} (h :∀ g,g=cX K e i→S (k g)):S (HX K e i k):=by
 unfold HX
 unfold cX at h
 cases h0:Nat.beq e.e0 (Nat.succ i)
 case true=>exact h _ (by rw [h0])
 rw [h0] at h
 cases h1:Nat.beq e.e1 (Nat.succ i)
 case true=>exact h _ (by rw [h1])
 rw [h1] at h
 cases h2:Nat.beq e.e2 (Nat.succ i)
 case true=>exact h _ (by rw [h2])
 rw [h2] at h
 cases h3:Nat.beq e.e3 (Nat.succ i)
 case true=>exact h _ (by rw [h3])
 rw [h3] at h
 cases h4:isK K i
 case true=>exact h _ (by rw [h4];rfl)
 exact h _ (by rw [h4])
theorem aI {S:Stp→Prop} {x:Operand} {k:Gt→Stp} (h :∀ g,g=rdS K e x→S (k g)):S (cZ K e x k):=by
 cases x with
 | tmp i=>exact HY (S:=S) (fun g hg=>h g hg)
 | const v=>
  show S (U.rec (motive:=fun _=>Stp) _ _ _ _ _ _ _ _ (jQ (cv v)))
  have h :∀ g,g =(fun _ _ _ _ _=>jQ (cv v))→S (k g):=h
  cases hu:jQ (cv v) <;>(rw [hu] at h;exact h _ rfl)
 | global i=>exact h _ rfl
 | func f=>exact h _ rfl
theorem AE {S:Stp→Prop} :∀ {l:List Operand} {k:List Gt→Stp},(∀ gs,gs=l.map (rdS K e)→S (k gs))→S (Nf K e l k)
 | [],k,h=>h _ rfl
 | x::l,k,h=>aI (S:=S) fun g hg=>AE (S:=S) (l:=l) fun gs hgs=>h _ (by rw [hg,hgs];rfl)
def Ps (K:Nat) (e:En) (pi:Nat→PI):List (Nat×Operand)→List PG→Prop
 | [],[]=>True
 | q::l,.at o s g::gs=>pi q.1 = .at o s∧g=rdS K e q.2∧Ps K e pi l gs
 | _,_=>False
theorem pj {S:Stp→Prop} (h0:S .slow) {pi:Nat→PI} :∀ {l:List (Nat×Operand)} {k:List PG→Stp},(∀ gs,Ps K e pi l gs→S (k gs))→S (x7 K e pi l k)
 | [],k,h=>h _ trivial
 | q::l,k,h=>by
  show S (PI.rec (motive:=fun _=>Stp) .slow (fun o s=>cZ K e q.2 fun g=>x7 K e pi l fun gs=>k (.at o s g::gs)) (pi q.1))
  cases hp:pi q.1 with
  | no=>exact h0
  | «at» o s=>exact aI (S:=S) fun g hg=>pj (S:=S) h0 (l:=l) fun gs hgs=>h _ ⟨hp,hg,hgs⟩
theorem oR {hp:HP} (W:hpW hp) {h:Nat} {t:CT} {n:Nat} (hg:aP hp h = .cells t n) :∃ cs,CsR t n cs∧hpH hp h=some (.cells cs)∧h<262144:=by
 have hw:=W h
 rw [hg] at hw
 obtain ⟨cs,hc⟩:=hw
 exact ⟨cs,hc,by unfold hpH;rw [hg];show some (Blk.cells (toL t n))=_;rw [hc.toL],BU (by rw [hg];exact fun h=>by cases h)⟩
theorem fX {hp:HP} (W:hpW hp) {h v ez:Nat} {t:CT} {n:Nat} (hg:aP hp h = .grow v ez t n) :∃ cs,CsR t n cs∧hpH hp h=some (.grow v ez cs)∧h<262144:=by
 have hw:=W h
 rw [hg] at hw
 obtain ⟨cs,hc⟩:=hw
 exact ⟨cs,hc,by unfold hpH;rw [hg];show some (Blk.grow v ez (toL t n))=_;rw [hc.toL],BU (by rw [hg];exact fun h=>by cases h)⟩
theorem yB {t:TypeId} (h:tyI tb t = .one) :∃ td,tb t=some td∧td.kind.agg=false∧td.size=1:=by
 unfold tyI at h
 split at h
 ·rename_i td ht
  refine ⟨td,ht,?_⟩
  split at h
  ·cases h
  ·rename_i ha
   split at h
   ·rename_i hs;exact ⟨by simpa using ha,hs⟩
   ·cases h
 ·cases h
theorem yA {t:TypeId} {n:Nat} (h:tyI tb t = .agg n) :∃ td,tb t=some td∧td.kind.agg=true∧td.size=n:=by
 unfold tyI at h
 split at h
 ·rename_i td ht
  refine ⟨td,ht,?_⟩
  split at h
  ·rename_i ha;cases h;exact ⟨ha,rfl⟩
  ·split at h <;> cases h
 ·cases h
theorem B3 (c:C) :(cU c).toV=c.toV:=by cases c <;> rfl
theorem Hh (c:C) :(cU c).wf:=by cases c <;> trivial
def Qw (tb:Tbl) (t:TypeId) (f:LdF):Prop:=∃ td,tb t=some td∧∀ (G:Rv→Prop) (ct:CT) (n:Nat) (cs:List V) (o:Nat) (k:U→Rv) (sl:Rv),CsR ct n cs→G sl→(∀ u v,ld td cs o = .val [] v []→v=u.toV→u.wf→G (k u))→G (f ct n o k sl)
theorem Cz {S:Stp→Prop} (h0:S .slow) {t:TypeId} {k:LdF→Stp} (h :∀ f,Qw tb t f→S (k f)):S (ldS (tyI tb t) k):=by
 cases hi:tyI tb t with
 | no=>exact h0
 | one=>
  obtain ⟨td,ht,ha,hs⟩:=yB hi
  refine h Ah ⟨td,ht,fun G ct n cs o k sl hc h0 hk=>bR h0 fun hb=>?_⟩
  have hlt:o<n:=aX hb
  refine hk _ (bZ ct o).toV ?_ (B3 _).symm (Hh _)
  unfold ld
  rw [ha,hc.get o hlt]
  rfl
 | agg m=>
  obtain ⟨td,ht,ha,hs⟩:=yA hi
  refine h (Ag m) ⟨td,ht,fun G ct n cs o k sl hc h0 hk=>bR h0 fun hb=>?_⟩
  have hle:o+m≤n:=aX hb
  have hld:ld td cs o = .val [] (.agg ((cs.drop o).take m)) []:=by
   unfold ld
   rw [ha,hs,if_pos rfl,if_pos (by rw [hc.len];exact hle)]
  cases hm:Nat.beq m n with
  | false=>
   have:=hc.sub hle
   exact hk _ _ hld (by show _=V.agg (toL _ _);rw [this.toL]) ⟨_,this⟩
  | true=>
   have e1:=aw hm
   have e0:o=0:=by omega
   subst e0
   subst e1
   refine hk _ _ hld ?_ ⟨_,hc⟩
   show _=V.agg (toL ct m)
   rw [hc.toL,List.drop_zero,List.take_of_length_le (by rw [hc.len];exact Nat.le_refl _)]
theorem yC {v:V} (h:v.one=true):cellsOf v=some [v]:=by cases v <;> first|rfl|cases h
def R9 (tb:Tbl) (t:TypeId) (f:StF):Prop:=∃ td,tb t=some td∧∀ (G:Rv→Prop) (x:U) (ct:CT) (n:Nat) (cs:List V) (o:Nat) (k:CT→Rv) (sl:Rv),x.wf→CsR ct n cs→G sl→
 (∀ xs ct',cellsOf x.toV=some xs→xs.length=td.size→xs.all V.one=true→o+td.size≤cs.length→CsR ct' n (splice cs o xs)→G (k ct'))→G (f x ct n o k sl)
theorem PU {S:Stp→Prop} (h0:S .slow) {t:TypeId} {k:StF→Stp} (h :∀ f,R9 tb t f→S (k f)):S (stS (tyI tb t) k):=by
 cases hi:tyI tb t with
 | no=>exact h0
 | one=>
  obtain ⟨td,ht,ha,hs⟩:=yB hi
  refine h Nz ⟨td,ht,fun G x ct n cs o k sl hx hc h0 hk=>bR h0 fun hb=>Sn h0 fun c hcv h1=>?_⟩
  have hlt:o<n:=aX hb
  rw [hcv] at h1
  refine hk [x.toV] _ (yC h1) (by rw [hs];rfl) (by simp [h1]) (by rw [hs,hc.len];exact hlt) ?_
  rw [←sT (by rw [hc.len];exact hlt),←hcv]
  exact hc.put hlt (by rw [hcv];exact h1)
 | agg m=>
  obtain ⟨td,ht,ha,hs⟩:=yA hi
  refine h (Ny m) ⟨td,ht,fun G x ct n cs o k sl hx hc h0 hk=>Cl h0 fun xt m' hxe=>bR h0 fun hb=>bR h0 fun hle=>?_⟩
  have e1:m=m':=aw hb
  subst e1
  subst hxe
  obtain ⟨xs,hxs⟩:=hx
  have hle:o+m≤n:=aX hle
  have hall:xs.all V.one=true:=List.all_eq_true.2 hxs.one
  have hcl:cellsOf (U.agg xt m).toV=some xs:=by show some (toL xt m)=_;rw [hxs.toL]
  cases hm:Nat.beq m n with
  | false=>exact hk xs _ hcl (by rw [hs,hxs.len]) hall (by rw [hs,hc.len];exact hle) (hc.splice hxs hle rfl)
  | true=>
   have e1:=aw hm
   subst e1
   have e0:o=0:=by omega
   subst e0
   refine hk xs _ hcl (by rw [hs,hxs.len]) hall (by rw [hs,hc.len];exact hle) ?_
   have:splice cs 0 xs=xs:=by
    unfold splice
    rw [List.take_zero,List.nil_append,List.drop_eq_nil_of_le (by rw [hc.len,hxs.len];omega),List.append_nil]
   rw [this]
   exact hxs
theorem He {t:TypeId} {x:Operand}:aV tb N K e (.load t x) (MX t x K e tb):=by
 refine Cz (S:=aV tb N K e (.load t x)) trivial fun f hf=>aI (S:=aV tb N K e (.load t x)) fun gx hgx=>?_
 subst hgx
 intro a b c d tm hp nx G k sl Wg W h0 h
 obtain ⟨td,ht,hf⟩:=hf
 refine oP h0 (fun q o hx=>HN h0 fun ct n hg=>?_) (fun q v o hx=>pM h0 fun v' ez ct n hg=>bR h0 fun hb=>?_)
 ·obtain ⟨cs,hc,hH,_⟩:=oR W hg
  refine hf G ct n cs o k sl hc h0 fun u v hl hv hw=>h u (vok W (ps:= []) (v:=v) ?_ eB (VLe.of_eq hv) hw)
  simp only [ay,bQ,bI,ht,tvp hx,fe,kS,hH,hl]
 ·obtain ⟨cs,hc,hH,_⟩:=fX W hg
  have e1:=aw hb
  subst e1
  refine hf G ct n cs o k sl hc h0 fun u v' hl hv hw=>h u (vok W (ps:= []) (v:=v') ?_ eB (VLe.of_eq hv) hw)
  simp only [ay,bQ,bI,ht,tvg hx,fe,hH,hl,if_true]
theorem Fu {t:TypeId} {x y:Operand}:aV tb N K e (.store t x y) (Hg t x y K e tb):=by
 refine PU (S:=aV tb N K e (.store t x y)) trivial fun f hf=>aI (S:=aV tb N K e (.store t x y)) fun gx hgx=>aI (S:=aV tb N K e (.store t x y)) fun gy hgy=>?_
 subst hgx
 subst hgy
 intro a b c d tm hp nx G k sl Wg W h0 h
 obtain ⟨td,ht,hf⟩:=hf
 refine oP h0 (fun q o hx=>HN h0 fun ct n hg=>?_) (fun q v o hx=>pM h0 fun v' ez ct n hg=>bR h0 fun hb=>?_)
 ·obtain ⟨cs,hc,hH,hl⟩:=oR W hg
  refine hf G _ ct n cs o _ sl (jE Wg y) hc h0 fun xs ct' hcl hlen hall hle hct=>h _ _ ⟨⟨[],.tup [],[(q,.cells (splice cs o xs))],?_,eB,VLe.refl _,?_⟩,fun w hw=>(by cases hw),fP W hl ⟨_,hct⟩⟩
  ·simp only [ay,bQ,ht,tvp hx,fg,cL,nJ,hcl,hlen,hall,hH,if_true,and_self,hle]
  ·rw [fO hl (B:= .cells (splice cs o xs))]
   show some (Blk.cells (toL ct' n))=_
   rw [hct.toL]
 ·obtain ⟨cs,hc,hH,hl⟩:=fX W hg
  have e1:=aw hb
  subst e1
  refine hf G _ ct n cs o _ sl (jE Wg y) hc h0 fun xs ct' hcl hlen hall hle hct=>h _ _ ⟨⟨[],.tup [],[(q,.grow v ez (splice cs o xs))],?_,eB,VLe.refl _,?_⟩,fun w hw=>(by cases hw),fP W hl ⟨_,hct⟩⟩
  ·simp only [ay,bQ,ht,tvg hx,fg,cL,hcl,hlen,hall,hH,if_true,and_self,hle,true_and]
  ·rw [fO hl (B:= .grow v ez (splice cs o xs))]
   show some (Blk.grow v ez (toL ct' n))=_
   rw [hct.toL]
theorem cMove_ok {x:Operand}:aV tb N K e (.move x) (DN x K e tb)∧aV tb N K e (.assign x) (DN x K e tb):=by
 constructor
 ·refine aI (S:=aV tb N K e (.move x)) fun gx hgx=>?_
  subst hgx
  intro a b c d tm hp nx G k sl Wg W h0 h
  exact h _ (vok W (ps:= []) (v:=(rdS K e x a b c d tm).toV) (by simp only [ay,bQ,bI]) eB (VLe.refl _) (jE Wg x))
 ·refine aI (S:=aV tb N K e (.assign x)) fun gx hgx=>?_
  subst hgx
  intro a b c d tm hp nx G k sl Wg W h0 h
  exact h _ (vok W (ps:= []) (v:=(rdS K e x a b c d tm).toV) (by simp only [ay,bQ,bI]) eB (VLe.refl _) (jE Wg x))
theorem Hf {p x y:Operand}:aV tb N K e (.pick p x y) (MY p x y K e tb):=by
 refine aI (S:=aV tb N K e (.pick p x y)) fun gp hgp=>aI (S:=aV tb N K e (.pick p x y)) fun gx hgx=>aI (S:=aV tb N K e (.pick p x y)) fun gy hgy=>?_
 subst hgp;subst hgx;subst hgy
 intro a b c d tm hp nx G k sl Wg W h0 h
 refine M5 h0 fun q hq=>?_
 cases q with
 | true=>exact h _ (vok W (ps:= []) (v:=(rdS K e x a b c d tm).toV) (by simp only [ay,bQ,bI,tvb hq,oN]) eB (VLe.refl _) (jE Wg x))
 | false=>exact h _ (vok W (ps:= []) (v:=(rdS K e y a b c d tm).toV) (by simp only [ay,bQ,bI,tvb hq,oN]) eB (VLe.refl _) (jE Wg y))
theorem BM {t:TypeId} {z:CT} {n:Nat} (h:wm tb t = .at z n) :∃ td,tb t=some td∧CsR z n td.zero:=by
 unfold wm at h
 split at h
 ·rename_i td ht
  cases ho:fZ td.zero with
  | false=>rw [ho] at h;cases h
  | true=>
   rw [ho] at h
   cases h
   exact ⟨td,ht,CsR.ofL ho⟩
 ·cases h
theorem rI {G:Rv→Prop} {m:Nat} {hp:HP} {b:Bk} {u:U} {k:U→HP→Rv} {sl:Rv} (h0:G sl) (h:m<262144→G (k u (cS hp m b))):G (F3 m hp b u k sl):=bR h0 fun hb=>h (aX hb)
theorem Fp {t:TypeId}:aV tb N K e (.alloc t) (B0 t K e tb):=by
 unfold B0
 cases hz:wm tb t with
 | no=>trivial
 | «at» z n=>
  obtain ⟨td,ht,hc⟩:=BM hz
  intro a b c d tm hp nx G k sl Wg W h0 h
  show G (bK nx _)
  rw [cu]
  refine rI h0 fun hm=>h _ _ ⟨⟨[],.ptr nx 0,[(nx,.cells td.zero)],by simp only [ay,bQ,bI,ht,qt],eB,VLe.refl _,fO hm ?_⟩,trivial,fP W hm ⟨_,hc⟩⟩
  show some (Blk.cells (toL z n))=_
  rw [hc.toL]
theorem K3 {t:TypeId} {x:Operand}:aV tb N K e (.box t x) (QG t x K e tb):=by
 refine aI (S:=aV tb N K e (.box t x)) fun gx hgx=>?_
 subst hgx
 intro a b c d tm hp nx G k sl Wg W h0 h
 show G (bK nx _)
 rw [cu]
 have hw:=jE Wg x
 refine HO h0 (fun c1 hc1 h1=>rI h0 fun hm=>?_) fun t' n hx=>rI h0 fun hm=>?_
 ·have hc:CsR (dD ct0 0 c1) 1 ([]++[c1.toV]):=(CsR.nil ct0).push (by omega) h1
  rw [List.nil_append,hc1] at hc
  rw [hc1] at h1
  refine h _ _ ⟨⟨[],.ptr nx 0,[(nx,.cells [(rdS K e x a b c d tm).toV])],by simp only [ay,bQ,bI,yC h1],eB,VLe.refl _,fO hm ?_⟩,trivial,fP W hm ⟨_,hc⟩⟩
  show some (Blk.cells (toL _ 1))=_
  rw [hc.toL]
 ·rw [hx] at hw
  obtain ⟨cs,hc⟩:=hw
  refine h _ _ ⟨⟨[],.ptr nx 0,[(nx,.cells cs)],by simp only [ay,bQ,bI,tva hc hx,cellsOf],eB,VLe.refl _,fO hm ?_⟩,trivial,fP W hm ⟨_,hc⟩⟩
  show some (Blk.cells (toL t' n))=_
  rw [hc.toL]
theorem Ll {t:TypeId} {f d:Nat} (h:Lk tb t f=some d) :∃ td fs ft tf,tb t=some td∧td.kind = .struct fs∧fs[f]?=some (d,ft)∧tb ft=some tf∧¬ tf.size=0:=by
 unfold Lk at h
 split at h
 case h_2=>cases h
 rename_i td ht
 split at h
 case h_2=>cases h
 rename_i fs hk
 split at h
 case h_2=>cases h
 rename_i o ft hf
 split at h
 case h_2=>cases h
 rename_i tf htf
 split at h
 ·cases h
 ·rename_i hs
  cases h
  exact ⟨td,fs,ft,tf,ht,hk,hf,htf,hs⟩
theorem N7 {t:TypeId} {x:Operand} {f:Nat}:aV tb N K e (.fieldAddr t x f) (cFA t x f K e tb):=by
 unfold cFA
 cases hd:Lk tb t f with
 | none=>trivial
 | some o1=>
  obtain ⟨td,fs,ft,tf,ht,hk,hf,htf,hs⟩:=Ll hd
  refine aI (S:=aV tb N K e (.fieldAddr t x f)) fun gx hgx=>?_
  subst hgx
  intro a b c d tm hp nx G k sl Wg W h0 h
  refine oP h0 (fun q o hx=>?_) (fun q v o hx=>?_)
  ·exact h _ (vok W (ps:= []) (v:= .ptr q (o+o1)) (by simp only [ay,bQ,bI,ht,tvp hx,jv,qv,hk,hf,htf,hs,if_false]) eB (VLe.refl _) trivial)
  ·exact h _ (vok W (ps:= []) (v:= .gp q v (o+o1)) (by simp only [ay,bQ,bI,ht,tvg hx,jv,hk,hf,htf,hs,if_false]) eB (VLe.refl _) trivial)
theorem N9 {t:TypeId} {x:Operand} {f:Nat}:aV tb N K e (.field t x f) (cFV t x f K e tb):=by
 unfold cFV
 cases hv:Ow tb t f with
 | no=>trivial
 | «at» o i=>
  unfold Ow at hv
  split at hv
  case h_2=>cases hv
  rename_i td ht
  split at hv
  case h_2=>cases hv
  rename_i fs hk
  split at hv
  case h_2=>cases hv
  rename_i o' ft hf
  cases hv
  refine Cz (S:=aV tb N K e (.field t x f)) trivial fun f1 hf1=>aI (S:=aV tb N K e (.field t x f)) fun gx hgx=>?_
  subst hgx
  intro a b c d tm hp nx G k sl Wg W h0 h
  obtain ⟨tf,htf,hf1⟩:=hf1
  have hw:=jE Wg x
  refine Cl h0 fun ct n hx=>?_
  have hx0:=hx
  rw [hx] at hw
  obtain ⟨cs,hc⟩:=hw
  refine hf1 G ct n cs _ k sl hc h0 fun u v hl hv hw=>h u (vok W (ps:= []) (v:=v) ?_ eB (VLe.of_eq hv) hw)
  simp only [ay,bQ,bI,ht,tva hc hx0,gU,hk,hf,htf,hl]
theorem Oa {t:TypeId} {x i:Operand}:aV tb N K e (.indexAddr t x i) (cIA t x i K e tb):=by
 unfold cIA
 cases hx:Ls tb t with
 | no=>trivial
 | sl esz=>
  unfold Ls at hx
  split at hx
  case h_2=>cases hx
  rename_i td ht
  split at hx
  case h_2=>split at hx <;> cases hx
  case h_3=>cases hx
  rename_i et hk
  split at hx
  case h_2=>cases hx
  rename_i te hte
  cases hx
  refine aI (S:=aV tb N K e (.indexAddr t x i)) fun gx hgx=>aI (S:=aV tb N K e (.indexAddr t x i)) fun gi hgi=>?_
  subst hgx;subst hgi
  intro a b c d tm hp nx G k sl Wg W h0 h
  refine mU h0 fun ik n hi=>D2 h0 fun m hn=>HQ h0 fun q v e' o l hu=>bR h0 fun hb=>pM h0 fun v' e2 ct n2 hg=>bR h0 fun h1=>bR h0 fun h2=>bR h0 fun h3=>?_
  subst hn
  obtain ⟨cs,hc,hH,_⟩:=fX W hg
  have hlt:m<l:=aX hb
  have e1:=aw h1
  have e3:=aw h2
  have e4:=aw h3
  subst e1
  subst e3
  subst e4
  exact h _ (vok W (ps:= [.rng (.ofNat m) l]) (v:= .gp q v ((o+m)*te.size)) (by simp only [ay,bQ,bI,ht,tvs hu,tvi hi,dv,hk,hte,hH,and_self,if_true];rfl) (oa ⟨by show (0:Int)≤(m:Int);omega,by show (m:Int)<l;omega⟩) (VLe.refl _) trivial)
 | ar l esz=>
  unfold Ls at hx
  split at hx
  case h_2=>cases hx
  rename_i td ht
  split at hx
  case h_1=>split at hx <;> cases hx
  case h_3=>cases hx
  rename_i l' et hk
  split at hx
  case h_2=>cases hx
  rename_i te hte
  cases hx
  refine aI (S:=aV tb N K e (.indexAddr t x i)) fun gx hgx=>aI (S:=aV tb N K e (.indexAddr t x i)) fun gi hgi=>?_
  subst hgx;subst hgi
  intro a b c d tm hp nx G k sl Wg W h0 h
  refine mU h0 fun ik n hi=>D2 h0 fun m hn=>bR h0 fun hb=>oP h0 (fun q o hu=>?_) (fun q v o hu=>?_)
  ·have hlt:m<l:=aX hb
   subst hn
   exact h _ (vok W (ps:= [.rng (.ofNat m) l]) (v:= .ptr q (o+m*te.size)) (by simp only [ay,bQ,bI,ht,tvp hu,tvi hi,dv,nE,hk,hte];rfl) (oa ⟨by show (0:Int)≤(m:Int);omega,by show (m:Int)<l;omega⟩) (VLe.refl _) trivial)
  ·have hlt:m<l:=aX hb
   subst hn
   exact h _ (vok W (ps:= [.rng (.ofNat m) l]) (v:= .gp q v (o+m*te.size)) (by simp only [ay,bQ,bI,ht,tvg hu,tvi hi,dv,hk,hte];rfl) (oa ⟨by show (0:Int)≤(m:Int);omega,by show (m:Int)<l;omega⟩) (VLe.refl _) trivial)
theorem K5 {t:TypeId} {x i:Operand}:aV tb N K e (.index t x i) (Oc t x i K e tb):=by
 unfold Oc
 cases hx:ON tb t with
 | no=>trivial
 | «at» l esz ti=>
  unfold ON at hx
  split at hx
  case h_2=>cases hx
  rename_i td ht
  split at hx
  case h_2=>cases hx
  rename_i l' et hk
  split at hx
  case h_2=>cases hx
  rename_i te hte
  cases hx
  refine Cz (S:=aV tb N K e (.index t x i)) trivial fun f1 hf1=>aI (S:=aV tb N K e (.index t x i)) fun gx hgx=>aI (S:=aV tb N K e (.index t x i)) fun gi hgi=>?_
  subst hgx;subst hgi
  intro a b c d tm hp nx G k sl Wg W h0 h
  obtain ⟨tf,htf,hf1⟩:=hf1
  rw [hte] at htf
  cases htf
  have hw:=jE Wg x
  refine mU h0 fun ik n hi=>D2 h0 fun m hn=>bR h0 fun hb=>Cl h0 fun ct n1 hx=>?_
  subst hn
  have hx0:=hx
  rw [hx] at hw
  obtain ⟨cs,hc⟩:=hw
  have hlt:m<l:=aX hb
  refine hf1 G ct n1 cs _ k sl hc h0 fun u v hl hv hw=>h u (vok W (ps:= [.rng (.ofNat m) l]) (v:=v) ?_ (oa ⟨by show (0:Int)≤(m:Int);omega,by show (m:Int)<l;omega⟩) (VLe.of_eq hv) hw)
  have hl:ld te cs ((Int.ofNat m).toNat*te.size) = .val [] v []:=hl
  simp only [ay,bQ,bI,ht,tva hc hx0,tvi hi,kQ,hk,hte,hl]
theorem K2 {op:BinOp} {t t2:TypeId} {x y:Operand}:aV tb N K e (.binOp op t x y t2) (N6 op t x y t2 K e tb):=by
 unfold N6
 cases hty:Qi tb t with
 | false=>trivial
 | true=>
  obtain ⟨td,ht⟩ :∃ td,tb t=some td:=by
   unfold Qi at hty
   split at hty
   ·exact ⟨_,by assumption⟩
   ·cases hty
  have main :∀ f:Fg,(∀ (ik:IntKind) (p q:Int) (G:Rv→Prop) (k:U→Rv) (sl:Rv),G sl→(∀ u ps v,fy td op (.int ik p) (.int ik q) = .val ps v []→(∀ p∈ps,p.holds)→VLe v u.toV→u.wf→G (k u))→G (f ik p q k sl))→
    aV tb N K e (.binOp op t x y t2) (cZ K e x fun gx=>cZ K e y fun gy=> .val fun a b c d tm _ _=>KZ f (gx a b c d tm) (gy a b c d tm)):=fun f hf=>by
   refine aI (S:=aV tb N K e (.binOp op t x y t2)) fun gx hgx=>aI (S:=aV tb N K e (.binOp op t x y t2)) fun gy hgy=>?_
   subst hgx;subst hgy
   intro a b c d tm hp nx G k sl Wg W h0 h
   refine mU h0 fun ik p hx=>mU h0 fun ik' q hy=>bR h0 fun hk=>?_
   have e1:=Ee hk
   subst e1
   refine hf ik p q G k sl h0 fun u ps v hr hps hv hw=>h u (vok W (ps:=ps) (v:=v) ?_ hps hv hw)
   simp only [ay,bQ,bI,ht,tvi hx,tvi hy,hr]
  have bo :∀ (f:Fg) (r s:IntKind→Int→Int→Bool),(∀ ik p q k sl,f ik p q k sl=k (.kb (r ik p q)))→(∀ ik p q,r ik p q=s ik p q)→(∀ ik p q,fy td op (.int ik p) (.int ik q) = .val [] (.bool (s ik p q)) [])→
    aV tb N K e (.binOp op t x y t2) (cZ K e x fun gx=>cZ K e y fun gy=> .val fun a b c d tm _ _=>KZ f (gx a b c d tm) (gy a b c d tm)):=fun f r s h1 h2 h3=>main f fun ik p q G k sl h0 h=>by
   rw [h1]
   exact h _ [] _ (h3 ik p q) eB (by rw [h2];exact Iz _) trivial
  have nu :∀ (f:Fg) (r s:IntKind→Int→Int→Int),(∀ ik p q k sl,f ik p q k sl=k (.int ik (r ik p q)))→(∀ ik p q,r ik p q=s ik p q)→(∀ ik p q,fy td op (.int ik p) (.int ik q) = .val [] (.int ik (s ik p q)) [])→
    aV tb N K e (.binOp op t x y t2) (cZ K e x fun gx=>cZ K e y fun gy=> .val fun a b c d tm _ _=>KZ f (gx a b c d tm) (gy a b c d tm)):=fun f r s h1 h2 h3=>main f fun ik p q G k sl h0 h=>by
   rw [h1]
   exact h _ [] _ (h3 ik p q) eB (by rw [h2];exact VLe.refl _) trivial
  cases op with
  | add=>exact nu QV (fun ik p q=>NU ik p q) (fun ik p q=>ik.wrap (p+q)) (fun _ _ _ _ _=>rfl) KV (fun ik p q=>by simp only [fy,if_true])
  | sub=>exact nu QZ (fun ik p q=>Qb ik p q) (fun ik p q=>ik.wrap (p - q)) (fun _ _ _ _ _=>rfl) MF (fun ik p q=>by simp only [fy,if_true])
  | mul=>exact nu QW (fun ik p q=>O8 ik p q) (fun ik p q=>ik.wrap (p*q)) (fun _ _ _ _ _=>rfl) LP (fun ik p q=>by simp only [fy,if_true])
  | quo=>
   refine main QX fun ik p q G k sl h0 h=>M3 h0 fun m n ha hb=>bR h0 fun h1=>?_
   have h1:1≤n:=aX h1
   subst ha;subst hb
   refine h _ [.ne0 (.ofNat n)] (.int ik (ik.wrap ((Int.ofNat m).tdiv (.ofNat n)))) (by simp only [fy,if_true]) (oa (by show ¬(n:Int)=0;omega)) ?_ trivial
   have:xr ik (Nat.div m n) (ik.wrap ((Int.ofNat m).tdiv (.ofNat n)))=ik.wrap ((Int.ofNat m).tdiv (.ofNat n)):=nK (by rfl)
   show VLe _ (V.int ik (xr ik (Nat.div m n) _))
   rw [this]
   exact VLe.refl _
  | rem=>
   refine main QY fun ik p q G k sl h0 h=>M3 h0 fun m n ha hb=>bR h0 fun h1=>?_
   have h1:1≤n:=aX h1
   subst ha;subst hb
   exact h _ [.ne0 (.ofNat n)] (.int ik ((Int.ofNat m).tmod (.ofNat n))) (by simp only [fy,if_true]) (oa (by show ¬(n:Int)=0;omega)) (VLe.refl _) trivial
  | and=>trivial
  | or=>trivial
  | xor=>trivial
  | shl=>trivial
  | shr=>trivial
  | andNot=>trivial
  | eql=>exact bo fEq (fun _ p q=>eqS p q) (fun _ p q=>p==q) (fun _ _ _ _ _=>rfl) (fun _=>Cc) (fun ik p q=>by simp only [fy,if_true])
  | neq=>exact bo fNe (fun _ p q=>F5 (eqS p q)) (fun _ p q=>p != q) (fun _ _ _ _ _=>rfl) (fun _ p q=>by rw [Ex,Cc];rfl) (fun ik p q=>by simp only [fy,if_true])
  | lss=>exact bo fLt (fun _ p q=>ltS p q) (fun _ p q=>decide (p<q)) (fun _ _ _ _ _=>rfl) (fun _=>IV) (fun ik p q=>by simp only [fy,if_true])
  | leq=>exact bo fLe (fun _ p q=>leS p q) (fun _ p q=>decide (p≤q)) (fun _ _ _ _ _=>rfl) (fun _=>IK) (fun ik p q=>by simp only [fy,if_true])
  | gtr=>exact bo fGt (fun _ p q=>ltS q p) (fun _ p q=>decide (p>q)) (fun _ _ _ _ _=>rfl) (fun _ p q=>IV q p) (fun ik p q=>by simp only [fy,if_true])
  | geq=>exact bo fGe (fun _ p q=>leS q p) (fun _ p q=>decide (p≥q)) (fun _ _ _ _ _=>rfl) (fun _ p q=>IK q p) (fun ik p q=>by simp only [fy,if_true])
theorem Og {op:UnOp} {t:TypeId} {x:Operand}:aV tb N K e (.unOp op t x) (cUn op t x K e tb):=by
 cases op with
 | not=>
  refine aI (S:=aV tb N K e (.unOp .not t x)) fun gx hgx=>?_
  subst hgx
  intro a b c d tm hp nx G k sl Wg W h0 h
  refine M5 h0 fun q hx=>h _ (vok W (ps:= []) (v:= .kb (!q)) (by simp only [ay,bQ,bI,HG,tvb hx]) eB (by rw [←Ex];exact VLe.refl _) trivial)
 | _=>trivial
theorem Hd {s t:TypeId} {x:Operand}:aV tb N K e (.convert s t x) (Hc s t x K e tb):=by
 unfold Hc
 cases hk:cvI tb s t with
 | none=>trivial
 | some ik=>
  unfold cvI at hk
  split at hk
  case h_2=>cases hk
  rename_i ts td hs hd
  split at hk
  case h_2=>cases hk
  rename_i k1 k2 hks hkd
  cases hk
  refine aI (S:=aV tb N K e (.convert s t x)) fun gx hgx=>?_
  subst hgx
  intro a b c d tm hp nx G k sl Wg W h0 h
  refine mU h0 fun ik' n hx=>h _ (vok W (ps:= []) (v:= .int ik (ik.wrap n)) (by simp only [ay,bQ,bI,hs,hd,qu,xh,hks,hkd,tvi hx]) eB (by rw [←Oj];exact VLe.refl _) trivial)
theorem qR (ev:Operand→U) :∀ l:List Operand,DP l ev=l.map fun x=>(ev x).toV
 | []=>rfl
 | x::l=>by show (ev x).toV::DP l ev=_;rw [qR ev l];rfl
theorem Oe {fn:Fn} {first caps:Array Operand}:aV tb N K e (.makeFunc fn first caps) (cMF fn first caps K e tb):=by
 unfold cMF
 cases fn with
 | func f=>
  show aV tb N K e _ (Bool.rec (motive:=fun _=>Stp) .slow _ (Nat.beq first.size 0))
  cases hb:Nat.beq first.size 0 with
  | false=>trivial
  | true=>
   have hs:=aw hb
   intro a b c d tm hp nx G k sl Wg W h0 h
   refine bR h0 fun hpl=>?_
   rw [qR] at hpl
   have hf0:first.toList=[]:=by simpa using hs
   exact h _ (vok W (ps:= []) (v:= .fn f (caps.toList.map fun x=>(rdS K e x a b c d tm).toV)) (by simp only [ay,bQ,bI,hf0,List.map_nil];rw [CR hpl]) eB (by rw [qR];exact VLe.refl _) trivial)
 | _=>trivial
theorem Qn (w:W) :(wU w).toV=w.toV:=by
 cases w with
 | c x=>exact B3 x
 | agg t n=>rfl
theorem R3 {w:W} (h:w.wf) :(wU w).wf:=by
 cases w with
 | c x=>exact Hh x
 | agg t n=>exact h
theorem M4 {G:Rv→Prop} {sl:Rv} (h0:G sl) {k:U→Rv} :∀ (i:Nat) (l:List W),(∀ w,l[i]?=some w→G (k (wU w)))→G (Ru i l k sl)
 | 0,[],_=>h0
 | 0,w::_,h=>h w rfl
 | i+1,[],_=>h0
 | i+1,w::l,h=>M4 h0 i l h
theorem K4 {x:Operand} {i:Nat}:aV tb N K e (.extract x i) (QI x i K e tb):=by
 refine aI (S:=aV tb N K e (.extract x i)) fun gx hgx=>?_
 subst hgx
 intro a b c d tm hp nx G k sl Wg W h0 h
 have hw:=jE Wg x
 refine Ox h0 fun l hx=>M4 h0 i l fun w hl=>?_
 have hx0:=hx
 rw [hx] at hw
 exact h _ (vok W (ps:= []) (v:=w.toV) (by simp only [ay,bQ,bI,lS,tvt hx0,List.getElem?_map,hl,Option.map_some]) eB (VLe.of_eq (Qn w).symm) (R3 (hw w (List.mem_of_getElem? hl))))
theorem K7 {x:Operand}:aV tb N K e (.nilCheck x) (QJ x K e tb):=by
 refine aI (S:=aV tb N K e (.nilCheck x)) fun gx hgx=>?_
 subst hgx
 intro a b c d tm hp nx G k sl Wg W h0 h
 refine oP h0 (fun q o hx=>?_) (fun q v o hx=>?_)
 ·exact h _ (vok W (ps:= []) (v:= .ptr q o) (by simp only [ay,bQ,bI,ze,tvp hx]) eB (VLe.refl _) trivial)
 ·exact h _ (vok W (ps:= []) (v:= .gp q v o) (by simp only [ay,bQ,bI,ze,tvg hx]) eB (VLe.refl _) trivial)
theorem rH {G:Rv→Prop} {sl:Rv} (h0:G sl) {a b c d:U} {tm:TM} (Wg :∀ i,(cX K e i a b c d tm).wf) {pi:Nat→PI} {f:Nat→Option (Nat×Nat)} (hf :∀ i o s,pi i = .at o s→f i=some (o,s)) {n:Nat} :∀ {l:List (Nat×Operand)} {gs:List PG},Ps K e pi l gs→∀ {t:CT} {cs:List V} {k:CT→Rv},CsR t n cs→
  (∀ t' cs',CsR t' n cs'→gW f cs (l.map fun p=>(p.1,(rdS K e p.2 a b c d tm).toV))=some cs'→G (k t'))→G (HJ a b c d tm n gs t k sl)
 | [],[],_,t,cs,k,hc,h=>h t cs hc rfl
 | q::l,.at o s g::gs,hp,t,cs,k,hc,h=>by
  obtain ⟨hp1,hp2,hp3⟩:=hp
  subst hp2
  have hfi:=hf _ _ _ hp1
  have hw:=jE Wg q.2
  refine bR h0 fun hle=>?_
  have hle:o+s≤n:=aX hle
  refine HO h0 (fun x hx h1=>bR h0 fun hs=>?_) fun xt m hx=>bR h0 fun hs=>?_
  ·have e1:s=1:=aw hs
   subst e1
   rw [hx] at h1
   refine rH h0 Wg hf hp3 (hc.put (i:=o) (x:=x) (by omega) (by rw [hx];exact h1)) fun t' cs' hc' hfl=>h t' cs' hc' ?_
   simp only [List.map_cons,gW,hfi,yC h1,List.length_singleton,if_true,hc.len,hle]
   rw [←sT (by rw [hc.len];omega),←hx]
   exact hfl
  ·have e1:s=m:=aw hs
   subst e1
   have hx0:=hx
   rw [hx] at hw
   obtain ⟨xs,hxs⟩:=hw
   refine rH h0 Wg hf hp3 (hc.splice hxs hle rfl) fun t' cs' hc' hfl=>h t' cs' hc' ?_
   simp only [List.map_cons,gW,hfi,tva hxs hx0,cellsOf,hxs.len,if_true,hc.len,hle]
   exact hfl
 | [],.at _ _ _::_,h,_,_,_,_,_=>h.elim
 | _::_,[],h,_,_,_,_,_=>h.elim
theorem Fq {t:TypeId} {parts:Array (Nat×Operand)}:aV tb N K e (.build t parts) (B1 t parts K e tb):=by
 unfold B1
 cases hb:wE tb t with
 | false=>trivial
 | true=>
  cases hz:wm tb t with
  | no=>trivial
  | «at» z n=>
   obtain ⟨td,ht,hc⟩:=BM hz
   refine pj (S:=aV tb N K e (.build t parts)) trivial fun gs hgs=>?_
   intro a b c d tm hp nx G k sl Wg W h0 h
   unfold wE at hb
   rw [ht] at hb
   simp only at hb
   split at hb
   ·rename_i fs hk
    refine rH h0 Wg (f:=fun i=>(fs[i]?).map fun q=>(q.1,((tb q.2).map TD.size).getD 0)) (fun i o s hi=>?_) hgs hc fun t' cs' hc' hfl=>?_
    ·unfold JE at hi
     rw [ht] at hi
     simp only [hk] at hi
     split at hi
     ·rename_i o' ft hft
      split at hi
      ·rename_i tf htf
       cases hi
       simp [hft,htf]
      ·cases hi
     ·cases hi
    ·exact h _ (vok W (ps:= []) (v:= .agg cs') (by simp only [ay,bQ,bI,ht,lR,hk,hb,if_true,hfl]) eB (by show VLe _ (V.agg (toL t' n));rw [hc'.toL];exact VLe.refl _) ⟨_,hc'⟩)
   ·rename_i l et hk
    obtain ⟨te,hte⟩:=Option.isSome_iff_exists.1 hb
    refine rH h0 Wg (f:=fun i=>some (i*te.size,te.size)) (fun i o s hi=>?_) hgs hc fun t' cs' hc' hfl=>?_
    ·unfold JE at hi
     rw [ht] at hi
     simp only [hk,hte] at hi
     cases hi
     rfl
    ·exact h _ (vok W (ps:= []) (v:= .agg cs') (by simp only [ay,bQ,bI,ht,lR,hk,hte,hfl]) eB (by show VLe _ (V.agg (toL t' n));rw [hc'.toL];exact VLe.refl _) ⟨_,hc'⟩)
   ·cases hb
theorem QU {td te:TD} {et:TypeId} (hk:td.kind = .slice et) (hte:tb et=some te) (hty:te.ty=none) (H:aq) (m n:Nat) (parts:List (Nat×V)):cM tb td H m n parts=if n≤1000∧te.size≤1000∧te.zero.length=te.size then
     match gW (fun i=>some (i*te.size,te.size)) (mu te.zero n) parts with
     | some cs=> .val [] (.gsl m m te.size 0 n) [(m,.grow m te.size cs)]
     | none=> .bad
    else .bad:=by
 have h1 :∀ H,cG tb td H m n parts = .bad:=fun H=>by simp only [cG,hk,hte,hty]
 have h2:dX tb td H m n parts = .bad:=by
  unfold dX
  rw [h1]
  simp only
  unfold kP
  rw [h1]
  cases Om tb td <;> rfl
 unfold cM
 rw [h2]
 simp only [hk,hte]
 rfl
theorem K1 {t:TypeId} {n:Nat} {parts:Array (Nat×Operand)}:aV tb N K e (.buildSlice t n parts) (N5 t n parts K e tb):=by
 unfold N5
 cases hb:N3 tb t n with
 | no=>trivial
 | «at» esz z len=>
  unfold N3 at hb
  split at hb
  case h_2=>cases hb
  rename_i td ht
  split at hb
  case h_2=>cases hb
  rename_i et hk
  split at hb
  case h_2=>cases hb
  rename_i te hte
  split at hb
  case isFalse=>cases hb
  rename_i hcond
  obtain ⟨h1,h2,h3,h4,h5⟩:=hcond
  cases hb
  have hty:te.ty=none:=by cases hq:te.ty with|none=>rfl|some _=>rw [hq] at h1;cases h1
  have hc:=CsR.ofL h5
  rw [A2,h4] at hc
  refine pj (S:=aV tb N K e (.buildSlice t n parts)) trivial fun gs hgs=>?_
  intro a b c d tm hp nx G k sl Wg W h0 h
  refine rH h0 Wg (f:=fun i=>some (i*te.size,te.size)) (fun i o s hi=>(by cases hi;rfl)) hgs hc fun t' cs' hc' hfl=>?_
  show G (bK nx _)
  rw [cu]
  refine rI h0 fun hm=>h _ _ ⟨⟨[],.gsl nx nx te.size 0 n,[(nx,.grow nx te.size cs')],by simp only [ay,bQ,bI,ht,QU hk hte hty,h2,h3,h4,and_self,if_true,hfl],eB,VLe.refl _,fO hm ?_⟩,trivial,fP W hm ⟨_,hc'⟩⟩
  show some (Blk.grow nx te.size (toL t' _))=_
  rw [hc'.toL]
theorem M1 {G:Rv→Prop} {sl:Rv} (h0:G sl) {x:Option Operand} {dn:Nat} {ev:Operand→U} {k:Nat→Rv} (h :∀ m:Nat,bnd (dn:Int) (x.map fun x=>(ev x).toV)=some (m:Int)→G (k m)):G (N2 x dn ev k sl):=by
 cases x with
 | none=>exact h dn rfl
 | some x=>
  refine mU h0 fun ik n hx=>D2 h0 fun m hn=>h m ?_
  subst hn
  simp only [Option.map_some,tvi hx,bnd]
  rfl
theorem Ft {t:TypeId} {x:Operand} {lo hi mx:Option Operand}:aV tb N K e (.slice t x lo hi mx) (B2 t x lo hi mx K e tb):=by
 unfold B2
 cases mx with
 | some _=>trivial
 | none=>
  cases hs:PR tb t with
  | none=>trivial
  | some esz=>
   unfold PR at hs
   split at hs
   case h_2=>cases hs
   rename_i td ht
   refine aI (S:=aV tb N K e (.slice t x lo hi none)) fun gx hgx=>?_
   subst hgx
   intro a b c d tm hp nx G k sl Wg W h0 h
   refine HQ h0 fun q v e' o l hu=>pM h0 fun v' e2 ct n2 hg=>bR h0 fun h1=>bR h0 fun h2=>bR h0 fun h3=>M1 h0 fun i hi=>M1 h0 fun j hj=>bR h0 fun h4=>bR h0 fun h5=>?_
   obtain ⟨cs,hc,hH,_⟩:=fX W hg
   have e1:=aw h1
   have e3:=aw h2
   have e4:=aw h3
   have h4:j≤l:=aX h4
   have h5:i<j:=aX h5
   subst e1
   subst e3
   subst e4
   have hcond :(Nat.beq i 0||Nat.blt i j)=true:=by
    rw [Bool.or_eq_true]
    exact .inr (by rw [Nat.blt_eq];exact h5)
   refine h _ (vok W (ps:= [.sub i j l]) (v:= .gsl q v esz (o+i) (j - i)) ?_ (oa ⟨by omega,by omega,by omega⟩) (VLe.refl _) trivial)
   have hi:bnd 0 (lo.map fun x=>(rdS K e x a b c d tm).toV)=some (i:Int):=hi
   simp only [ay,bQ,bI,ht,tvs hu,ff,Option.map_none,hs,hi,hj,hH,and_self,if_true,Int.toNat_natCast,hcond,cond_true]
theorem Gh {S:Stp→Prop} (h0:S .slow) {l:List Operand} {k:Operand→Stp} (h :∀ x,l=[x]→S (k x)):S (CM l k):=by
 match l with
 | []=>exact h0
 | [x]=>exact h x rfl
 | _::_::_=>exact h0
theorem GK {S:Stp→Prop} (h0:S .slow) {l:List Operand} {k:Operand→Operand→Stp} (h :∀ x y,l=[x,y]→S (k x y)):S (KF l k):=by
 match l with
 | []=>exact h0
 | [x]=>exact h0
 | [x,y]=>exact h x y rfl
 | _::_::_::_=>exact h0
theorem K6 {q:Call} (hq:q.callee = .builtin .len):aV tb N K e (.call q) (Od q K e tb):=by
 unfold Od
 cases hs:Iu tb q with
 | false=>trivial
 | true=>
  unfold Iu at hs
  split at hs
  case h_2=>cases hs
  rename_i t hat
  split at hs
  case h_2=>cases hs
  rename_i td ht
  obtain ⟨et,hk⟩ :∃ et,td.kind = .slice et:=by
   unfold It at hs
   split at hs
   ·exact ⟨_,by assumption⟩
   ·cases hs
  refine Gh (S:=aV tb N K e (.call q)) trivial fun x hx=>aI (S:=aV tb N K e (.call q)) fun gx hgx=>?_
  subst hgx
  intro a b c d tm hp nx G k sl Wg W h0 h
  refine D3 h0 (fun hu=>?_) (fun hu=>?_) fun r v e' o l hu=>pM h0 fun v' e2 ct n2 hg=>bR h0 fun h1=>bR h0 fun h2=>bR h0 fun h3=>?_
  ·exact h _ (vok W (ps:= []) (v:= .int .i64 0) (by simp only [ay,bQ,bI,hq,hat,hx,ht,tvo hu,iZ,uF,hk]) eB (VLe.refl _) trivial)
  ·exact h _ (vok W (ps:= []) (v:= .int .i64 0) (by simp only [ay,bQ,bI,hq,hat,hx,ht,tvo hu,iZ,uF,hk]) eB (VLe.refl _) trivial)
  ·obtain ⟨cs,hc,hH,_⟩:=fX W hg
   have e1:=aw h1
   have e3:=aw h2
   have h3:l≤ai:=aX h3
   subst e1
   subst e3
   exact h _ (vok W (ps:= []) (v:= .int .i64 l) (by simp only [ay,bQ,bI,hq,hat,hx,ht,tvs hu,iZ,hk,hH,h3,and_self,if_true]) eB (VLe.refl _) trivial)
theorem Sm {G:Rv→Prop} {sl:Rv} (h0:G sl) {hp:HP} (W:hpW hp) {esz:Nat} {u:U} {k:Nat→CT→Nat→Rv} (h :∀ cnt t xo n cs,CsR t n cs→xo+cnt*esz≤n→ja (hpH hp) esz u.toV=some (cnt,(cs.drop xo).take (cnt*esz))→G (k cnt t xo)):G (gcG hp esz u k sl):=by
 refine D3 h0 (fun hu=>?_) (fun hu=>?_) fun r v e' o l hu=>pM h0 fun v' e2 ct n2 hg=>bR h0 fun h1=>bR h0 fun h2=>bR h0 fun h3=>bR h0 fun h4=>?_
 ·exact h 0 ct0 0 0 [] (.nil _) (by omega) (by simp [tvo hu,ja])
 ·exact h 0 ct0 0 0 [] (.nil _) (by omega) (by simp [tvo hu,ja])
 ·obtain ⟨cs,hc,hH,_⟩:=fX W hg
  have e1:=aw h1
  have e3:=aw h2
  have e4:=aw h3
  have h4 :(o+l)*esz≤n2:=aX h4
  refine h l ct (o*esz) n2 cs hc (by rw [←Nat.add_mul];exact h4) ?_
  simp only [tvs hu,ja,hH,e1,e3,e4,and_self,if_true]
theorem K0 {q:Call} (hq:q.callee = .builtin .append):aV tb N K e (.call q) (N4 q K e tb):=by
 unfold N4
 cases ha:NY tb q with
 | no=>trivial
 | «at» esz bytes=>
  unfold NY at ha
  split at ha
  case h_2=>cases ha
  rename_i t t2 hat
  split at ha
  case h_2=>cases ha
  rename_i td td2 ht ht2
  split at ha
  case h_2=>cases ha
  rename_i et hk
  split at ha
  case h_2=>cases ha
  rename_i te hte
  split at ha
  case isFalse=>cases ha
  rename_i hcond
  obtain ⟨hel,hty,hb1,hb2,hz⟩:=hcond
  cases ha
  refine GK (S:=aV tb N K e (.call q)) trivial fun s x hsx=>aI (S:=aV tb N K e (.call q)) fun gs hgs=>aI (S:=aV tb N K e (.call q)) fun gx hgx=>?_
  subst hgs;subst hgx
  intro a b c d tm hp nx G k sl Wg W h0 h
  refine Sm h0 W fun cnt xt xo xn xs hxc hxo hgc=>?_
  show G (bK nx _)
  rw [cu]
  have hall :((xs.drop xo).take (cnt*te.size)).all V.one=true:=List.all_eq_true.2 fun v hv=>hxc.one v (List.mem_of_mem_drop (List.mem_of_mem_take hv))
  have main:ay ⟨tb,fun _=>none,1,N⟩ nx (hpH hp) (fun x=>(rdS K e x a b c d tm).toV) (.call q)=match dF tb td (hpH hp) nx (rdS K e s a b c d tm).toV (rdS K e x a b c d tm).toV with | .val ps v dh=>some (ps,v,dh)|_=>none:=by
   simp only [ay,bQ,bI,hq,hat,hsx,ht,ht2,NZ,hel,Bool.true_or,if_true]
   rfl
  have hev :∀ r,(match cnt with
       | 0=>(match (rdS K e s a b c d tm).toV with
        | .nilsl=> .val [] .nilsl []
        | .esl=> .val [] .esl []
        | .gsl h ver esz off len=>match hpH hp h with
         | some (.grow ver' esz' _)=>if ver=ver'∧esz=esz' then .val [] (.gsl h ver esz off len) [] else .bad
         | _=> .bad
        | _=> .bad)
       | k+1=>match (rdS K e s a b c d tm).toV with
        | .nilsl=> .val [.leN ((k+1)*te.bytes) 70368744177664] (.gsl nx nx te.size 0 (k+1)) [(nx,.grow nx te.size ((xs.drop xo).take (cnt*te.size)))]
        | .esl=> .val [.leN ((k+1)*te.bytes) 70368744177664] (.gsl nx nx te.size 0 (k+1)) [(nx,.grow nx te.size ((xs.drop xo).take (cnt*te.size)))]
        | .gsl h ver esz off len=>match hpH hp h with
         | some (.grow ver' esz' cs)=>if ver=ver'∧esz=te.size∧esz'=te.size∧off=0∧len*te.size=cs.length then
           .val [.leN ((len +(k+1))*te.bytes) 70368744177664] (.gsl h nx te.size 0 (len +(k+1))) [(h,.grow nx te.size (cs ++((xs.drop xo).take (cnt*te.size))))] else .bad
         | _=> .bad
        | _=> .bad:Res)=r→dF tb td (hpH hp) nx (rdS K e s a b c d tm).toV (rdS K e x a b c d tm).toV=r:=fun r hr=>by
   have hor:isG (rdS K e s a b c d tm).toV=true∨isG (rdS K e x a b c d tm).toV=true∨te.ty.isNone=true:= .inr (.inr hty)
   simp only [dF,hk,hte]
   rw [if_pos hor,if_pos ⟨hb1,hb2,hz⟩,hgc]
   simp only [hall,if_true]
   exact hr
  cases cnt with
  | zero=>
   have hw:=jE Wg s
   refine D3 h0 (fun hu=>?_) (fun hu=>?_) fun r v e' o l hu=>pM h0 fun v' e2 ct n2 hg=>bR h0 fun h1=>bR h0 fun h2=>?_
   ·exact h _ _ (vok W (ps:= []) (v:= .nilsl) (by rw [main,hev _ (by simp only [tvo hu];rfl)]) eB (by rw [hu];exact VLe.refl _) hw)
   ·exact h _ _ (vok W (ps:= []) (v:= .esl) (by rw [main,hev _ (by simp only [tvo hu];rfl)]) eB (by rw [hu];exact VLe.refl _) hw)
   ·obtain ⟨cs,hc,hH,_⟩:=fX W hg
    have e1:=aw h1
    have e3:=aw h2
    subst e1
    subst e3
    exact h _ _ (vok W (ps:= []) (v:= .gsl r v e' o l) (by rw [main,hev (.val [] (.gsl r v e' o l) []) (by simp only [tvs hu,hH,and_self,if_true])]) eB (by rw [hu];exact VLe.refl _) hw)
  | succ cnt=>
   have hnew :(rdS K e s a b c d tm).toV = .nilsl∨(rdS K e s a b c d tm).toV = .esl→G (G0 te.size te.bytes hp nx (Nat.succ cnt) xt xo k sl):=fun hs=>by
    refine bR h0 fun h1=>bR h0 fun h2=>rI h0 fun hm=>?_
    have h1 :(cnt+1)*te.bytes≤70368744177664:=aX h1
    have hc:=hxc.sub hxo
    refine h _ _ ⟨⟨[.leN ((cnt+1)*te.bytes) 70368744177664],.gsl nx nx te.size 0 (cnt+1),[(nx,.grow nx te.size ((xs.drop xo).take ((cnt+1)*te.size)))],?_,oa h1,VLe.refl _,fO hm ?_⟩,trivial,fP W hm ⟨_,hc⟩⟩
    ·rw [main]
     rcases hs with hs|hs
     ·rw [hev _ (by simp only [hs];rfl)]
     ·rw [hev _ (by simp only [hs];rfl)]
    ·show some (Blk.grow nx te.size (toL (oB ct0 0 xt xo ((cnt+1)*te.size)) ((cnt+1)*te.size)))=_
     rw [hc.toL]
   refine D3 h0 (fun hu=>hnew (.inl (by rw [hu];rfl))) (fun hu=>hnew (.inr (by rw [hu];rfl))) fun r v e' o l hu=>pM h0 fun v' e2 ct n2 hg=>bR h0 fun h1=>bR h0 fun h2=>bR h0 fun h3=>bR h0 fun h4=>bR h0 fun h5=>bR h0 fun h6=>bR h0 fun h7=>?_
   obtain ⟨cs,hc,hH,hm⟩:=fX W hg
   have e1:=aw h1
   have e3:=aw h2
   have e4:=aw h3
   have e5:=aw h4
   have e6:l*te.size=n2:=aw h5
   have h6 :(l +(cnt+1))*te.bytes≤70368744177664:=aX h6
   have h7:n2 +(cnt+1)*te.size≤4096:=aX h7
   subst e1
   subst e3
   subst e5
   have e4:e2=te.size:=e4
   have hl:=hc.len
   have hap:=hc.app hxc hxo h7
   refine h _ _ ⟨⟨[.leN ((l +(cnt+1))*te.bytes) 70368744177664],.gsl r nx te.size 0 (l +(cnt+1)),[(r,.grow nx te.size (cs ++(xs.drop xo).take ((cnt+1)*te.size)))],?_,oa h6,VLe.refl _,fO hm ?_⟩,trivial,fP W hm ⟨_,hap⟩⟩
   ·rw [main,hev _ (by simp only [tvs hu,hH,e4,e6,hl,and_self,if_true];rfl)]
   ·show some (Blk.grow nx te.size (toL (oB ct n2 xt xo ((cnt+1)*te.size)) (n2 +(cnt+1)*te.size)))=_
    rw [hap.toL]
theorem yN (a b c d:U) (tm:TM) (cs:List V) :∀ l:List Operand,G4 (l.map (rdS K e)) a b c d tm cs =(l.map fun x=>rdS K e x a b c d tm)++cs.map jQ
 | []=>rfl
 | x::l=>by
  show rdS K e x a b c d tm::G4 (l.map (rdS K e)) a b c d tm cs=_
  rw [yN a b c d tm cs l]
  rfl
theorem Hb {q:Call}:aV tb N K e (.call q) (Ha q K e tb):=by
 unfold Ha
 cases hq:q.callee with
 | value f=>
  refine aI (S:=aV tb N K e (.call q)) fun gf hgf=>AE (S:=aV tb N K e (.call q)) fun gs hgs=>?_
  subst hgf;subst hgs
  intro a b c d tm G k sl Wg h0 h
  refine Q0 h0 fun g cs hf=>bR h0 fun hpl=>?_
  rw [yN]
  refine h g _ ⟨⟨q,f,cs,rfl,hq,by show (rdS K e f a b c d tm).toV=_;rw [hf];rfl,hpl,fun E l hl=>?_⟩,fun u hu=>?_⟩
  ·rw [List.map_append,List.map_map,List.map_map]
   have :∀ (xs:List V) (l:List Value),ab E (xs++cs) l→ab E (xs++cs.map (U.toV ∘ jQ)) l:=by
    intro xs
    induction xs with
    | nil=>intro l hl;exact oq (fun v=>v) _ kB cs l (by simpa using hl)
    | cons x xs ih=>
     intro l hl
     cases l with
     | nil=>simp [ab] at hl
     | cons y l=>simp only [List.cons_append,ab] at hl ⊢;exact ⟨hl.1,ih l hl.2⟩
   exact this _ l hl
  ·rcases List.mem_append.1 hu with h1|h1
   ·obtain ⟨x,_,rfl⟩:=List.mem_map.1 h1
    exact jE Wg x
   ·obtain ⟨v,_,rfl⟩:=List.mem_map.1 h1
    exact kC v
 | builtin b=>
  show aV tb N K e (.call q) (QH b q K e tb)
  cases b with
  | append=>exact K0 hq
  | len=>exact K6 hq
  | _=>exact trivial
 | _=>exact trivial
theorem Oi (op:Op):aV tb N K e op (cmp K e tb op):=by
 cases op with
 | move x=>exact cMove_ok.1
 | assign x=>exact cMove_ok.2
 | pick=>exact Hf
 | alloc=>exact Fp
 | box=>exact K3
 | build=>exact Fq
 | buildSlice=>exact K1
 | load=>exact He
 | store=>exact Fu
 | nilCheck=>exact K7
 | binOp=>exact K2
 | unOp=>exact Og
 | convert=>exact Hd
 | makeFunc=>exact Oe
 | slice=>exact Ft
 | fieldAddr=>exact N7
 | field=>exact N9
 | indexAddr=>exact Oa
 | index=>exact K5
 | extract=>exact K4
 | call=>exact Hb
 | _=>exact trivial
end Go.Mir
namespace Go.Mir
open Go.RowKit
variable {P:Program} {tb:Tbl} {N K:Nat}
structure TmW (K:Nat) (e:En) (a b c d:U) (tm:TM):Prop where
 win :∀ i,(cX K e i a b c d tm).wf
 tm :∀ i,isK K i=true→((cq i).get tm).wf
structure TmR (K:Nat) (e:En) (a b c d:U) (tm:TM) (E:Env) (act:Act):Prop where
 win :∀ i,aa E (cX K e i a b c d tm).toV (act.tmps.getD i undef)
 tm :∀ i,isK K i=true→aa E ((cq i).get tm).toV (act.tmps.getD i undef)
structure RV (B:Base) (E0:Env) (n0 N K:Nat) (e:En) (a b c d:U) (tm:TM) (hp:HP) (nx:Nat) (E:Env) (act:Act):Prop where
 rel:HRel B E
 ext:Ext E0 E
 h:E.H=hpH hp
 u :∀ n,E.U n→E0.U n∨(n0≤n∧n<nx)
 le:n0≤nx
 tm:TmR K e a b c d tm E act
 size:act.tmps.size=N
 defers:act.defers=[]
abbrev WT (K:Nat) (tm:TM):Prop:=TmW K en0 u0 u0 u0 u0 tm
abbrev RX (B:Base) (E0:Env) (n0 N K:Nat) (tm:TM) (hp:HP) (nx:Nat) (E:Env) (act:Act):Prop:=RV B E0 n0 N K en0 u0 u0 u0 u0 tm hp nx E act
theorem rP {K i:Nat} (h:isK K i=true):i<512:=by
 unfold isK at h
 cases hb:Nat.ble (Nat.succ i) 512 with
 | true=>exact aX hb
 | false=>rw [hb] at h;cases h
theorem gZ (i:Nat) (tm:TM):cX K en0 i u0 u0 u0 u0 tm=bif isK K i then (cq i).get tm else u0:=by
 unfold cX
 have:Nat.beq en0.e0 (Nat.succ i)=false:=rfl
 cases hk:isK K i <;> rfl
theorem jZ {p:U→Prop} {e:En} {i dd:Nat} {u a b c d:U} {tm tm':TM} (h0:p u0) (hu:i=dd→p u) (hw:i≠dd→p (cX K e i a b c d tm)) (ht:i≠dd→isK K i=true→p ((cq i).get tm')):p (cX K ⟨Nat.succ dd,e.e0,e.e1,e.e2⟩ i u a b c tm'):=by
 by_cases e1:i=dd
 ·have:cX K ⟨Nat.succ dd,e.e0,e.e1,e.e2⟩ i u a b c tm'=u:=by
   unfold cX
   have:Nat.beq (Nat.succ dd) (Nat.succ i)=true:=by rw [e1];exact Nat.beq_refl _
   simp only [this]
  rw [this]
  exact hu e1
 ·have hw:=hw e1
  have ht:=ht e1
  unfold cX at hw ⊢
  have hb:Nat.beq (Nat.succ dd) (Nat.succ i)=false:=by
   cases hb:Nat.beq (Nat.succ dd) (Nat.succ i) with
   | false=>rfl
   | true=>exact absurd (Nat.succ.inj (aw hb)).symm e1
  simp only [hb]
  cases h1:Nat.beq e.e0 (Nat.succ i)
  case true=>rw [h1] at hw;exact hw
  rw [h1] at hw
  cases h2:Nat.beq e.e1 (Nat.succ i)
  case true=>rw [h2] at hw;exact hw
  rw [h2] at hw
  cases h3:Nat.beq e.e2 (Nat.succ i)
  case true=>rw [h3] at hw;exact hw
  cases h4:isK K i
  case true=>exact ht h4
  exact h0
theorem wg:u0.wf:=trivial
theorem nt {E:Env} {v:Value}:aa E u0.toV v:=by simp [u0,U.toV,aa]
theorem jl {K i j:Nat} (hi:isK K i=true) (hj:isK K j=true) (h:i≠j) (u:U) (tm:TM) :(cq j).get ((cq i).put u tm) =(cq j).get tm:=DH (rP hi) (rP hj) h u tm
theorem jb {a:Act} {dd:Nat} (h:dd<a.tmps.size) (v:Value) :(a.put (some dd) v).tmps.getD dd undef=v:=by
 simp [Act.put,Array.getD_eq_getD_getElem?,h]
theorem eG {a:Act} {dd i:Nat} (h:i≠dd) (v:Value) :(a.put (some dd) v).tmps.getD i undef=a.tmps.getD i undef:=by
 simp [Act.put,Array.getD_eq_getD_getElem?,Array.getElem?_setIfInBounds_ne (Ne.symm h)]
theorem Ky {e:En} {dd:Nat} {u a b c d:U} {tm:TM} (h:TmW K e a b c d tm) (hu:u.wf):TmW K ⟨Nat.succ dd,e.e0,e.e1,e.e2⟩ u a b c tm:=
 ⟨fun i=>jZ (p:=U.wf) (d:=d) (tm:=tm) wg (fun _=>hu) (fun _=>h.win i) (fun _ hk=>h.tm i hk),h.tm⟩
theorem Kz {e:En} {dd:Nat} (hd:isK K dd=true) {u a b c d:U} {tm:TM} (h:TmW K e a b c d tm) (hu:u.wf):TmW K ⟨Nat.succ dd,e.e0,e.e1,e.e2⟩ u a b c ((cq dd).put u tm):=by
 refine ⟨fun i=>jZ (p:=U.wf) (d:=d) (tm:=tm) wg (fun _=>hu) (fun _=>h.win i) (fun hne hk=>?_),fun i hk=>?_⟩
 ·rw [jl hd hk (Ne.symm hne)];exact h.tm i hk
 ·by_cases e1:dd=i
  ·subst e1;rw [gM];exact hu
  ·rw [jl hd hk e1];exact h.tm i hk
theorem yx {e:En} {a b c d:U} {tm:TM} {E E':Env} {act:Act} (X:Ext E E') (h:TmR K e a b c d tm E act):TmR K e a b c d tm E' act:=
 ⟨fun i=>aH X _ _ (h.win i),fun i hk=>aH X _ _ (h.tm i hk)⟩
theorem Kx {e:En} {a b c d:U} {tm:TM} {E:Env} {act:Act} {v:Value} (h:TmR K e a b c d tm E act):TmR K e a b c d tm E (act.put none v):=h
theorem Kv {e:En} {dd:Nat} (hk0:isK K dd=false) {u a b c d:U} {tm:TM} {E:Env} {act:Act} (hd:dd<act.tmps.size) {v:Value} (h:TmR K e a b c d tm E act) (hu:aa E u.toV v):TmR K ⟨Nat.succ dd,e.e0,e.e1,e.e2⟩ u a b c tm E (act.put (some dd) v):=by
 refine ⟨fun i=>jZ (p:=fun u=>aa E u.toV ((act.put (some dd) v).tmps.getD i undef)) (d:=d) (tm:=tm) nt (fun e1=>?_) (fun hne=>?_) (fun hne hk=>?_),fun i hk=>?_⟩
 ·rw [e1,jb hd];exact hu
 ·rw [eG hne];exact h.win i
 ·rw [eG hne];exact h.tm i hk
 ·have hne:i≠dd:=fun e1=>by rw [e1,hk0] at hk;cases hk
  rw [eG hne];exact h.tm i hk
theorem Kw {e:En} {dd:Nat} (hk0:isK K dd=true) {u a b c d:U} {tm:TM} {E:Env} {act:Act} (hd:dd<act.tmps.size) {v:Value} (h:TmR K e a b c d tm E act) (hu:aa E u.toV v):TmR K ⟨Nat.succ dd,e.e0,e.e1,e.e2⟩ u a b c ((cq dd).put u tm) E (act.put (some dd) v):=by
 refine ⟨fun i=>jZ (p:=fun u=>aa E u.toV ((act.put (some dd) v).tmps.getD i undef)) (d:=d) (tm:=tm) nt (fun e1=>?_) (fun hne=>?_) (fun hne hk=>?_),fun i hk=>?_⟩
 ·rw [e1,jb hd];exact hu
 ·rw [eG hne];exact h.win i
 ·rw [eG hne,jl hk0 hk (Ne.symm hne)];exact h.tm i hk
 ·by_cases e1:dd=i
  ·subst e1;rw [gM,jb hd];exact hu
  ·rw [eG (Ne.symm e1),jl hk0 hk e1];exact h.tm i hk
theorem C4 {e:En} {a b c d:U} {tm:TM} {E:Env} {act:Act} (h:TmR K e a b c d tm E act) (x:Operand):aa E (rdS K e x a b c d tm).toV (act.eval x):=by
 cases x with
 | tmp i=>exact h.win i
 | const v=>exact kB _ _ _ (fV v)
 | func f=>simp only [rdS,U.toV,aa,Act.eval];exact ⟨#[],rfl,by simp [ab]⟩
 | global i=>exact nt
theorem TmW.out {e:En} {a b c d:U} {tm:TM} (h:TmW K e a b c d tm):WT K tm:=by
 refine ⟨fun i=>?_,h.tm⟩
 rw [gZ]
 cases hk:isK K i with
 | true=>exact h.tm i hk
 | false=>exact wg
theorem TmR.out {e:En} {a b c d:U} {tm:TM} {E:Env} {act:Act} (h:TmR K e a b c d tm E act):TmR K en0 u0 u0 u0 u0 tm E act:=by
 refine ⟨fun i=>?_,h.tm⟩
 rw [gZ]
 cases hk:isK K i with
 | true=>exact h.tm i hk
 | false=>exact nt
theorem RV.out {B:Base} {E0:Env} {n0:Nat} {e:En} {a b c d:U} {tm:TM} {hp:HP} {nx:Nat} {E:Env} {act:Act} (h:RV B E0 n0 N K e a b c d tm hp nx E act):RX B E0 n0 N K tm hp nx E act:=
 ⟨h.rel,h.ext,h.h,h.u,h.le,h.tm.out,h.size,h.defers⟩
def wq (P:Program) (g:FuncId) (args:List U) (u:U):Prop:=∀ (E:Env) (av:List Value),ab E (args.map U.toV) av→∃ v',aa E u.toV v'∧
 ∀ (o:Oper) (c:Call) (f:Operand) (l:Array Value) (a:Act) (next:Act→World→Prop) (Q:Exit→Act→World→Prop),o.op = .call c→c.callee = .value f→a.eval f = .func (.func g) #[] l→av=c.args.toList.map a.eval++l.toList→
  next (a.put o.dst v') E.w→o.wp P a E.w next Q
structure FnV (P:Program) (g:FuncId) (args:List U) (hp:HP) (nx:Nat) (u:U) (hp':HP) (nx':Nat):Prop where
 fn :∃ fn,P.funcs[g]?=some fn∧fn.body.isSome=true∧(fn.name == "runtime.NumGoroutine")=false
 le:nx≤nx'
 wf:u.wf
 hw:hpW hp'
 calls :∀ (B:Base) (E:Env) (av:List Value),HRel B E→E.H=hpH hp→ab E (args.map U.toV) av→(∀ n,nx≤n→n<nx'→¬ E.U n)→
  Calls P g av.toArray E.w fun e w'=>∃ E' v',e = .returned v'∧Came B E (hpH hp') nx nx' u.toV v' w' E'
structure CallVOK (P:Program) (call:eD):Prop where
 ok :∀ g args hp nx u hp' nx',(∀ x∈args,x.wf)→hpW hp→call g args hp nx = .ok u hp' nx'→FnV P g args hp nx u hp' nx'
 ex :∀ g args hp nx u hp' nx',(∀ x∈args,x.wf)→call g args hp nx = .ex u hp' nx'→hp'=hp∧nx'=nx∧u.wf∧wq P g args u
theorem ML (v:V):VLe v (jk v):=fun _ _ h=>kA h
theorem BH {E:Env} :∀ {cs:List V} {l:List Value},ab E cs l→ab E (cs.map jk) l
 | [],[],_=>by simp [ab]
 | [],_::_,h=>by simp [ab] at h
 | _::_,[],h=>by simp [ab] at h
 | _::_,_::_,h=>by simp only [List.map_cons,ab] at h ⊢;exact ⟨kA h.1,BH h.2⟩
theorem yK (cs:List V):VLe (.agg cs) (.agg (cs.map jk)):=fun _ _ h=>by
 simp only [aa] at h ⊢
 obtain ⟨l,h1,h2⟩:=h
 exact ⟨l,h1,BH h2⟩
theorem Cv (v:V):VLe v (kbV v):=by
 cases v with
 | agg cs=>exact yK cs
 | tup vs=>
  intro E x h
  simp only [kbV,aa] at h ⊢
  obtain ⟨l,h1,h2⟩:=h
  refine ⟨l,h1,?_⟩
  revert h2
  generalize l.toList=us
  induction vs generalizing us with
  | nil=>exact id
  | cons v vs ih=>
   cases us with
   | nil=>intro h;simp [ab] at h
   | cons u us=>
    intro h
    simp only [List.map_cons,ab] at h ⊢
    refine ⟨?_,ih us h.2⟩
    have h:=h.1
    cases v <;> first|exact yK _ _ _ h|exact kA h
 | _=>exact ML _
abbrev Wp:=(Exit→Act→World→Prop)→Act→World→Prop
structure EndsV (N K:Nat) (e:En) (a b c d:U) (tm:TM) (hp:HP) (nx:Nat) (l:Lf) (tm':TM) (hp':HP) (nx':Nat) (W:Wp):Prop where
 l:l = .nrm
 le:nx≤nx'
 wt:WT K tm'
 hw:hpW hp'
 wp :∀ (B:Base) (E0:Env) (n0:Nat) (Q:Exit→Act→World→Prop) (E:Env) (act:Act),(∀ n,n0≤n→n<nx'→¬ E0.U n)→(∀ E act,RX B E0 n0 N K tm' hp' nx' E act→Q .normal act E.w)→RV B E0 n0 N K e a b c d tm hp nx E act→W Q act E.w
def pB (N K:Nat) (call:eD) (X:Cds) (e:En) (W:Wp):Prop:=∀ (a b c d:U) (tm:TM) (hp:HP) (nx:Nat) (l:Lf) (tm':TM) (hp':HP) (nx':Nat),TmW K e a b c d tm→hpW hp→X.run a b c d call tm hp nx = .go l tm' hp' nx'→EndsV N K e a b c d tm hp nx l tm' hp' nx' W
structure PostV (N K:Nat) (e:En) (a b c d:U) (tm:TM) (dst:Option Nat) (u:U) (hp1:HP) (nx1:Nat) (l:Lf) (tm':TM) (hp':HP) (nx':Nat) (W:Wp):Prop where
 l:l = .nrm
 le:nx1≤nx'
 wt:WT K tm'
 hw:hpW hp'
 wp :∀ (B:Base) (E0:Env) (n0:Nat) (Q:Exit→Act→World→Prop) (E:Env) (act:Act) (hp:HP) (nx:Nat) (E':Env) (v':Value),(∀ n,n0≤n→n<nx'→¬ E0.U n)→(∀ E act,RX B E0 n0 N K tm' hp' nx' E act→Q .normal act E.w)→RV B E0 n0 N K e a b c d tm hp nx E act→
  nx≤nx1→HRel B E'→Ext E E'→E'.H=hpH hp1→(∀ n,E'.U n→E.U n∨(nx≤n∧n<nx1))→aa E' u.toV v'→W Q (act.put dst v') E'.w
theorem mb {call:eD} {nxt:Cds} {e:En} {dst:Option Nat} {W:Wp} (hn:pB N K call nxt (enS e dst) W) (hd:dstIn N dst=true) {a b c d:U} {tm:TM} {u:U} {hp1:HP} {nx1:Nat} {l:Lf} {tm':TM} {hp':HP} {nx':Nat} (Wt:TmW K e a b c d tm) (hu:u.wf) (Wh:hpW hp1)
  (h:jC (dkS K dst) nxt u a b c d call tm hp1 nx1 = .go l tm' hp' nx'):PostV N K e a b c d tm dst u hp1 nx1 l tm' hp' nx' W:=by
 have mk :∀ {B:Base} {E0:Env} {n0:Nat} {E:Env} {act:Act} {hp:HP} {nx:Nat} {E':Env} {v':Value} {e2:En} {a2 b2 c2 d2:U} {tm2:TM},RV B E0 n0 N K e a b c d tm hp nx E act→nx≤nx1→HRel B E'→Ext E E'→E'.H=hpH hp1→(∀ n,E'.U n→E.U n∨(nx≤n∧n<nx1))→
   TmR K e2 a2 b2 c2 d2 tm2 E' (act.put dst v')→RV B E0 n0 N K e2 a2 b2 c2 d2 tm2 hp1 nx1 E' (act.put dst v'):=fun {B E0 n0 E act hp nx E' v' e2 a2 b2 c2 d2 tm2} hR hle hE hX hH hU hT=>by
  have hle0:=hR.le
  refine ⟨hE,hR.ext.trans hX,hH,fun n hn=>?_,Nat.le_trans hle0 hle,hT,by rw [lA];exact hR.size,by rw [iu];exact hR.defers⟩
  rcases hU n hn with h|h
  ·rcases hR.u n h with h|h
   ·exact .inl h
   ·exact .inr ⟨h.1,by have:=h.2;omega⟩
  ·exact .inr ⟨by omega,h.2⟩
 cases dst with
 | none=>
  have:=hn a b c d tm hp1 nx1 l tm' hp' nx' Wt Wh h
  exact ⟨this.l,this.le,this.wt,this.hw,fun B E0 n0 Q E act hp nx E' v' hfr hQ hR hle hE hX hH hU hv=>this.wp B E0 n0 Q E' _ hfr hQ (mk hR hle hE hX hH hU (Kx (yx hX hR.tm)))⟩
 | some dd=>
  have hdn:dd<N:=by have h:Nat.blt dd N=true:=hd;rw [Nat.blt_eq] at h;exact h
  cases hk:isK K dd with
  | false=>
   have h1:Cds.run nxt u a b c call tm hp1 nx1 = .go l tm' hp' nx':=by
    have:dkS K (some dd) = .drop:=by show Bool.rec (motive:=fun _=>DK) _ _ (isK K dd)=_;rw [hk]
    rw [this] at h
    exact h
   have:=hn u a b c tm hp1 nx1 l tm' hp' nx' (Ky Wt hu) Wh h1
   exact ⟨this.l,this.le,this.wt,this.hw,fun B E0 n0 Q E act hp nx E' v' hfr hQ hR hle hE hX hH hU hv=>this.wp B E0 n0 Q E' _ hfr hQ (mk hR hle hE hX hH hU (Kv hk (by rw [hR.size];exact hdn) (yx hX hR.tm) hv))⟩
  | true=>
   have h1:Cds.run nxt u a b c call ((cq dd).put u tm) hp1 nx1 = .go l tm' hp' nx':=by
    have:dkS K (some dd) = .keep (cq dd).put:=by show Bool.rec (motive:=fun _=>DK) _ _ (isK K dd)=_;rw [hk]
    rw [this] at h
    exact h
   have:=hn u a b c ((cq dd).put u tm) hp1 nx1 l tm' hp' nx' (Kz hk Wt hu) Wh h1
   exact ⟨this.l,this.le,this.wt,this.hw,fun B E0 n0 Q E act hp nx E' v' hfr hQ hR hle hE hX hH hU hv=>this.wp B E0 n0 Q E' _ hfr hQ (mk hR hle hE hX hH hU (Kw hk (by rw [hR.size];exact hdn) (yx hX hR.tm) hv))⟩
theorem ku :∀ {dh:List (Nat×Blk)} {hp hp':HP},hpW hp→sU dh hp=some hp'→hpH hp'=an (hpH hp) dh∧hpW hp'
 | [],hp,hp',W,h=>by cases h;exact ⟨rfl,W⟩
 |(q,b)::r,hp,hp',W,h=>by
  unfold sU at h
  split at h
  case h_2=>cases h
  rename_i hp1 h1
  obtain ⟨e1,W1⟩:=ku W h1
  cases hq:Nat.ble (Nat.succ q) LL with
  | false=>rw [hq] at h;cases h
  | true=>
   have hq:q<262144:=aX hq
   have key :∀ (b':Bk) (b:Blk),b'.toB=some b→b'.wf→hpH (cS hp1 q b')=an (hpH hp) ((q,b)::r)∧hpW (cS hp1 q b'):=fun b' b hb hw=>by
    refine ⟨?_,fP W1 hq hw⟩
    rw [fO hq hb,e1]
    funext k
    simp only [an,find]
    cases Nat.beq q k <;> rfl
   rw [‹Nat.ble (Nat.succ q) LL=true›] at h
   simp only [cond_true] at h
   split at h
   ·rename_i cs
    cases ho:fZ cs with
    | false=>rw [ho] at h;cases h
    | true=>
     rw [ho] at h
     cases h
     have hc:=CsR.ofL ho
     exact key _ _ (by show some (Blk.cells (toL _ _))=_;rw [hc.toL]) ⟨_,hc⟩
   ·rename_i v e cs
    cases ho:fZ cs with
    | false=>rw [ho] at h;cases h
    | true=>
     rw [ho] at h
     cases h
     have hc:=CsR.ofL ho
     exact key _ _ (by show some (Blk.grow _ _ (toL _ _))=_;rw [hc.toL]) ⟨_,hc⟩
   ·cases h
    exact key _ _ rfl trivial
   ·cases h
   ·cases h
section
variable {call:eD} {all:List Oper}
abbrev opW (P:Program) (o:Oper) (W:Wp):Wp:=fun Q act w=>o.wp P act w (fun act w=>W Q act w) Q
theorem tu (hT:aO P tb) {o:Oper} {e:En} {a b c d:U} {tm:TM} {hp:HP} {nx:Nat} {u:U} {hp1:HP} {l:Lf} {tm':TM} {hp':HP} {nx':Nat} {W:Wp} (hv:ValOK tb N (fun x=>(rdS K e x a b c d tm).toV) o.op hp nx u hp1)
  (hq:PostV N K e a b c d tm o.dst u hp1 (Nat.succ nx) l tm' hp' nx' W):EndsV N K e a b c d tm hp nx l tm' hp' nx' (opW P o W):=by
 obtain ⟨ps,v,dh,h1,h2,h3,h4⟩:=hv.ex
 have hle:=hq.le
 refine ⟨hq.l,by omega,hq.wt,hq.hw,fun B E0 n0 Q E act hfr hQ hR=>?_⟩
 have hle0:=hR.le
 have hH:=hR.h
 rw [←hH] at h1
 refine du (C:=⟨tb,fun _=>none,1,N⟩) hR.rel hT (Nat.le_refl _) (fun _ _ h=>by cases h) (fun n k1 k2 hu=>?_) (C4 hR.tm) h1 h2 (fun v' E' G hv'=>?_)
 ·have k2:n<nx+1:=k2
  rcases hR.u n hu with h|h
  ·exact hfr n (by omega) (by omega) h
  ·have:=h.2;omega
 ·exact hq.wp B E0 n0 Q E act _ nx E' v' hfr hQ hR (Nat.le_succ nx) G.rel G.ext (by rw [G.h,hH,h4]) (fun n hn=>by
   rcases G.u n hn with h|h
   ·exact .inl h
   ·exact .inr h) (h3 E' v' hv')
theorem GD (hT:aO P tb) {o:Oper} {e:En} {nxt:Cds} {W:Wp} (hn:pB N K call nxt (enS e o.dst) W) (hd:dstIn N o.dst=true):pB N K call ⟨oe tb N K e o.op (dkS K o.dst) nxt⟩ e (opW P o W):=by
 intro a b c d tm hp nx l tm' hp' nx' Wt Wh h
 have h:bK nx (fun nx=>match re tb N nx (hpH hp) (fun x=>(rdS K e x a b c d tm).toV) o.op with
 | some (ps,v,dh)=>match Nc ps with
  | true=>match sU dh hp with
   | some hp=>jC (dkS K o.dst) nxt (jQ (kbV v)) a b c d call tm hp (Nat.succ nx)
   | none=> .no [104]
  | false=> .no [100]
 | none=> .no [101]) = .go l tm' hp' nx':=by
  simp only [oe,Nx,cu] at h ⊢
  exact h
 rw [cu] at h
 split at h
 case h_2=>cases h
 rename_i ps v dh hev
 split at h
 case h_2=>cases h
 rename_i hobs
 split at h
 case h_2=>cases h
 rename_i hp1 hs
 obtain ⟨e1,W1⟩:=ku Wh hs
 have hps :∀ p∈ps,p.holds:=fun p hp=>by
  cases ps with
  | nil=>cases hp
  | cons q qs=>
   have :(q::qs).all Ob.chk=true:=hobs
   exact Ob.chk_holds (List.all_eq_true.1 this p hp)
 exact tu hT ⟨⟨ps,v,dh,oJ _ _ _ _ _ _ hev,hps,(Cv v).trans (kB _),e1⟩,kC _,W1⟩ (mb hn hd Wt (kC _) W1 h)
theorem Ko (hT:aO P tb) (hcall:CallVOK P call) {o:Oper} {e:En} {nxt:Cds} {W:Wp} (hn:pB N K call nxt (enS e o.dst) W) (hd:dstIn N o.dst=true):pB N K call (yw tb N K e o.op (dkS K o.dst) nxt (cmp K e tb o.op)) e (opW P o W):=by
 have hst:=Oi (tb:=tb) (N:=N) (K:=K) (e:=e) o.op
 have hsl:=GD (P:=P) (call:=call) (e:=e) hT hn hd
 generalize cmp K e tb o.op=s at hst
 cases s with
 | slow=>exact hsl
 | val f=>
  intro a b c d tm hp nx l tm' hp' nx' Wt Wh h
  have h:f a b c d tm hp nx (fun u=>jC (dkS K o.dst) nxt u a b c d call tm hp (Nat.succ nx)) (oe tb N K e o.op (dkS K o.dst) nxt a b c d call tm hp nx) = .go l tm' hp' nx':=by
   unfold yw at h
   cases hdk:dkS K o.dst <;>(rw [hdk] at h;exact h)
  revert h
  refine hst a b c d tm hp nx (fun r=>r = .go l tm' hp' nx'→EndsV N K e a b c d tm hp nx l tm' hp' nx' (opW P o W)) _ _ Wt.win Wh (hsl a b c d tm hp nx l tm' hp' nx' Wt Wh) (fun u hv h=>?_)
  exact tu hT hv (mb hn hd Wt hv.wf hv.hw h)
 | mem f=>
  intro a b c d tm hp nx l tm' hp' nx' Wt Wh h
  revert h
  refine hst a b c d tm hp nx (fun r=>r = .go l tm' hp' nx'→EndsV N K e a b c d tm hp nx l tm' hp' nx' (opW P o W)) _ _ Wt.win Wh (hsl a b c d tm hp nx l tm' hp' nx' Wt Wh) (fun u hp1 hv h=>?_)
  exact tu hT hv (mb hn hd Wt hv.wf hv.hw h)
 | cal f=>
  intro a b c d tm hp nx l tm' hp' nx' Wt Wh h
  revert h
  refine hst a b c d tm (fun r=>r = .go l tm' hp' nx'→EndsV N K e a b c d tm hp nx l tm' hp' nx' (opW P o W)) _ _ Wt.win (hsl a b c d tm hp nx l tm' hp' nx' Wt Wh) (fun g args hv h=>?_)
  obtain ⟨q,f,caps,ho,hf,hg,hpl,hargs⟩:=hv.ex
  have av :∀ {E:Env} {act:Act},TmR K e a b c d tm E act→∃ l:Array Value,act.eval f = .func (.func g) #[] l∧ab E (args.map U.toV) (q.args.toList.map act.eval++l.toList):=fun {E act} hR=>by
   have hfv:=C4 hR f
   rw [hg] at hfv
   simp only [aa] at hfv
   obtain ⟨l,hfe,hl⟩:=hfv
   rw [JG hpl hl] at hfe
   exact ⟨l,hfe,hargs E _ (aW (eY _ _ (C4 hR) _) hl)⟩
  cases hc:call g args hp nx with
  | no w=>rw [hc] at h;cases h
  | ok u hp1 nx1=>
   rw [hc] at h
   have F:=hcall.ok g args hp nx u hp1 nx1 hv.wf Wh hc
   have hp2:=mb hn hd Wt F.wf F.hw (show jC (dkS K o.dst) nxt u a b c d call tm hp1 nx1 = .go l tm' hp' nx' from h)
   have hle1:=F.le
   have hle2:=hp2.le
   refine ⟨hp2.l,by omega,hp2.wt,hp2.hw,fun B E0 n0 Q E act hfr hQ hR=>?_⟩
   obtain ⟨l,hfe,hav⟩:=av hR.tm
   have hle0:=hR.le
   refine K8 ho hf hfe F.fn (F.calls B E _ hR.rel hR.h hav (fun n h3 h4 hu=>?_)) (fun e w' hh=>?_)
   ·rcases hR.u n hu with h|h
    ·exact hfr n (by omega) (by omega) h
    ·have:=h.2;omega
   ·obtain ⟨E',v',rfl,C⟩:=hh
    refine ⟨v',rfl,?_⟩
    have:=hp2.wp B E0 n0 Q E act hp nx E' v' hfr hQ hR (by omega) C.rel C.ext C.h (fun n hn=>by
     rcases C.u n hn with h|h
     ·exact .inl h
     ·exact .inr ⟨h.1,by have:=h.2;omega⟩) C.v
    rw [C.w] at this
    exact this
  | ex u hp1 nx1=>
   rw [hc] at h
   obtain ⟨rfl,rfl,hu,hx⟩:=hcall.ex g args hp nx u hp1 nx1 hv.wf hc
   have hp2:=mb hn hd Wt hu Wh (show jC (dkS K o.dst) nxt u a b c d call tm hp1 nx1 = .go l tm' hp' nx' from h)
   have hle2:=hp2.le
   refine ⟨hp2.l,by omega,hp2.wt,hp2.hw,fun B E0 n0 Q E act hfr hQ hR=>?_⟩
   obtain ⟨l,hfe,hav⟩:=av hR.tm
   obtain ⟨v',hv',hcan⟩:=hx E _ hav
   exact hcan o q f l act _ Q ho hf hfe rfl (hp2.wp B E0 n0 Q E act hp1 nx1 E v' hfr hQ hR (Nat.le_refl _) hR.rel (Ext.refl E) hR.h (fun n hn=> .inl hn) hv')
theorem HV {e:En} {i:Nat} {k:Gt→Cds}:HU K e i k=k (cX K e i):=by
 unfold HU cX
 cases Nat.beq e.e0 (Nat.succ i)
 case true=>rfl
 cases Nat.beq e.e1 (Nat.succ i)
 case true=>rfl
 cases Nat.beq e.e2 (Nat.succ i)
 case true=>rfl
 cases Nat.beq e.e3 (Nat.succ i)
 case true=>rfl
 cases isK K i
 case true=>rfl
 rfl
theorem Q1 {e:En} {a b c d:U} {tm:TM} {E:Env} {act:Act} (hR:TmR K e a b c d tm E act) {o:Oper} {q:Nat×Bool} (hg:o.guard=some q) {dj:Nat} (hj:HM all q.1=some dj) {r:Bool} (h :(match (cX K e dj a b c d tm).toV with | .kb b=>some (b==q.2) | .tup []=>some false|_=>none:Option Bool)=some r):Region.wanted o (yielded all.toArray act.tmps)=r:=by
 refine kZ (E:=E) (T:=fun s=>(cX K e s a b c d tm).toV) hR.win ?_
 unfold HM at hj
 obtain ⟨j,want⟩:=q
 rw [hg]
 simp only at hj ⊢
 cases hx:all[j]? with
 | none=>rw [hx] at hj;cases hj
 | some oj=>
  rw [hx] at hj
  simp only at hj ⊢
  rw [hj]
  exact h
theorem Jw (hT:aO P tb) (hcall:CallVOK P call) {o:Oper} {rest:List Oper} {e:En} {nxt:Cds} (hn:pB N K call nxt (enS e o.dst) (fun Q act w=>wpList P all.toArray Q rest act w)) (hd:dstIn N o.dst=true):pB N K call (Po tb N K all e o (dkS K o.dst) nxt) e (fun Q act w=>wpList P all.toArray Q (o::rest) act w):=by
 have hst:=Ko (P:=P) (e:=e) hT hcall hn hd
 unfold Po
 cases hg:o.guard with
 | none=>
  intro a b c d tm hp nx l tm' hp' nx' Wt Wh h
  have:=hst a b c d tm hp nx l tm' hp' nx' Wt Wh h
  refine ⟨this.l,this.le,this.wt,this.hw,fun B E0 n0 Q E act hfr hQ hR=>?_⟩
  unfold wpList
  have hw:Region.wanted o (yielded all.toArray act.tmps)=true:=by unfold Region.wanted;rw [hg]
  rw [hw]
  simp only [if_true]
  exact .inl (this.wp B E0 n0 Q E act hfr hQ hR)
 | some q=>
  intro a b c d tm hp nx l tm' hp' nx' Wt Wh h
  have h:Cds.run (Option.rec (motive:=fun _=>Cds) QF (fun dj=>gdC K e dj q.2 (dkS K o.dst) nxt (yw tb N K e o.op (dkS K o.dst) nxt (cmp K e tb o.op))) (HM all q.1)) a b c d call tm hp nx = .go l tm' hp' nx':=h
  cases hj:HM all q.1 with
  | none=>
   rw [hj] at h
   cases h
  | some dj=>
   rw [hj] at h
   have run :(∀ {E:Env} {act:Act},TmR K e a b c d tm E act→Region.wanted o (yielded all.toArray act.tmps)=true)→Cds.run (yw tb N K e o.op (dkS K o.dst) nxt (cmp K e tb o.op)) a b c d call tm hp nx = .go l tm' hp' nx'→EndsV N K e a b c d tm hp nx l tm' hp' nx' (fun Q act w=>wpList P all.toArray Q (o::rest) act w):=fun hw h=>by
    have:=hst a b c d tm hp nx l tm' hp' nx' Wt Wh h
    refine ⟨this.l,this.le,this.wt,this.hw,fun B E0 n0 Q E act hfr hQ hR=>?_⟩
    unfold wpList
    rw [hw hR.tm]
    simp only [if_true]
    exact .inl (this.wp B E0 n0 Q E act hfr hQ hR)
   have skip :(∀ {E:Env} {act:Act},TmR K e a b c d tm E act→Region.wanted o (yielded all.toArray act.tmps)=false)→jC (dkS K o.dst) nxt (.tup []) a b c d call tm hp nx = .go l tm' hp' nx'→EndsV N K e a b c d tm hp nx l tm' hp' nx' (fun Q act w=>wpList P all.toArray Q (o::rest) act w):=fun hw h=>by
    have:=mb hn hd Wt (show (U.tup []).wf from fun w hw=>by cases hw) Wh h
    refine ⟨this.l,this.le,this.wt,this.hw,fun B E0 n0 Q E act hfr hQ hR=>?_⟩
    unfold wpList
    rw [hw hR.tm]
    simp only [Bool.false_eq_true,if_false]
    exact this.wp B E0 n0 Q E act hp nx E undef hfr hQ hR (Nat.le_refl _) hR.rel (Ext.refl E) hR.h (fun n hn=> .inl hn) (by simp [U.toV,aa,undef,ab])
   have h:Cds.run (gdC K e dj q.2 (dkS K o.dst) nxt (yw tb N K e o.op (dkS K o.dst) nxt (cmp K e tb o.op))) a b c d call tm hp nx = .go l tm' hp' nx':=h
   unfold gdC at h
   rw [HV] at h
   have gw :∀ r:Bool,(match (cX K e dj a b c d tm).toV with | .kb b=>some (b==q.2) | .tup []=>some false|_=>none:Option Bool)=some r→∀ {E:Env} {act:Act},TmR K e a b c d tm E act→Region.wanted o (yielded all.toArray act.tmps)=r:=fun r h {E act} hR=>Q1 hR hg hj h
   cases hq:q.2 with
   | true=>
    rw [hq] at h gw
    have h:RU (cX K e dj a b c d tm) (Cds.run (yw tb N K e o.op (dkS K o.dst) nxt (cmp K e tb o.op)) a b c d call tm hp nx) (jC (dkS K o.dst) nxt (.tup []) a b c d call tm hp nx) (.no [105]) = .go l tm' hp' nx':=h
    cases hu:cX K e dj a b c d tm with
    | kb p=>
     rw [hu] at h gw
     cases p with
     | true=>exact run (gw true rfl) h
     | false=>exact skip (gw false rfl) h
    | tup ws=>
     rw [hu] at h gw
     cases ws with
     | nil=>exact skip (gw false rfl) h
     | cons _ _=>cases h
    | _=>rw [hu] at h;cases h
   | false=>
    rw [hq] at h gw
    have h:RQ (cX K e dj a b c d tm) (Cds.run (yw tb N K e o.op (dkS K o.dst) nxt (cmp K e tb o.op)) a b c d call tm hp nx) (jC (dkS K o.dst) nxt (.tup []) a b c d call tm hp nx) (.no [105]) = .go l tm' hp' nx':=h
    cases hu:cX K e dj a b c d tm with
    | kb p=>
     rw [hu] at h gw
     cases p with
     | true=>exact skip (gw false rfl) h
     | false=>exact run (gw true rfl) h
    | tup ws=>
     rw [hu] at h gw
     cases ws with
     | nil=>exact skip (gw false rfl) h
     | cons _ _=>cases h
    | _=>rw [hu] at h;cases h
theorem AH (hT:aO P tb) (hcall:CallVOK P call) :∀ (rest:List Oper) (e:En),(∀ o∈rest,dstIn N o.dst=true)→pB N K call (Rw tb N K all rest e) e (fun Q act w=>wpList P all.toArray Q rest act w)
 | [],e,_=>by
  intro a b c d tm hp nx l tm' hp' nx' Wt Wh h
  have h:Rv.go .nrm tm hp nx = .go l tm' hp' nx':=h
  cases h
  exact ⟨rfl,Nat.le_refl _,Wt.out,Wh,fun B E0 n0 Q E act hfr hQ hR=>wpList_nil (hQ E act hR.out)⟩
 | o::rest,e,hd=>Jw hT hcall (AH hT hcall rest (enS e o.dst) (fun o ho=>hd o (List.mem_cons_of_mem _ ho))) (hd o List.mem_cons_self)
end
end Go.Mir
