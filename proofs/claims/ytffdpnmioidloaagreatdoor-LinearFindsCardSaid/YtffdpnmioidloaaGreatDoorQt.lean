/- LinearFinds: a Total in the book of a log that is wrong by 1 to 4 is found at its row. The card: the tables of the library that the row lists are tied to the text of the program. Condition: none beyond the own one of the row (listed variables hold what the text of the program lays). -/
import Derived.Test.YtffdpnmioidloaaGreatDoorPY7
import Derived.Test.YtffdpnmioidloaaGreatDoorCards
import Derived.SizedLaws
import Derived.LaidMore
import Derived.SevenTiedAt
import Derived.OpenShut
import Derived.ProofKit
namespace Go.Proofs.YtffdpnmioidloaaGreatDoor
open Go Go.Mir Go.ChangeShapes Go.WideShapes Go.ChangeAt Go.RowKit
attribute [local irreducible] Go.Mir.RT.sat Go.Mir.evFn Go.Mir.stepObl
theorem MN:laidOutB Tryz.prog=true:=by kernel_rfl
theorem Pn {α:Type} {ds:List α} (h:ds.length=3) :∃ a b c,ds=[a,b,c]:=by
 match ds,h with
 | [a,b,c],_=>exact ⟨a,b,c,rfl⟩
set_option maxRecDepth 100000 in
theorem nO (os:Os) (started:os.Started) (H:Type) (enc:TypeId×Value→H) :
  ReturnsInHanded {} Tryz.checked os 10 .any (fun w args=>(Rows.linearFindsSpec.pre enc Tryz.prog Tryz.f10 [] false w args∧laidMetH Tryz.prog ER w)∧sizedMet enc Tryz.prog Tryz.f10 (OpenSpec.ofChange Rows.linearFindsSpec) false w args)
   (Rows.linearFindsSpec.post enc Tryz.prog Tryz.f10 false true false false):=by
 refine returnsInHanded_of_change_and (C:=Tryz.checked) (X:=fun w _=>laidMetH Tryz.prog ER w) (fun _ _ _ hh h=>h.of_heap hh) QL started (by kernel_rfl) Tryz.func10
  (ChangeSpec.witness_shaped (enc:=enc) (C:=Tryz.checked) (os:=os) (X:=fun w _=>laidMetH Tryz.prog ER w) false (World.doorLaid Tryz.prog 72 os) #[.agg #[.string { data:=#[] },.int .i64 0,.int .i64 0,.int .i64 0,.int .i64 0,.int .i64 0,.int .i64 0,.int .i64 0,.bool false,.int .i64 0,.int .i64 0,.int .i64 0,.int .i64 0,.slice none 0 0],.slice none 0 0,.int .u16 0] 8 rfl (World.shaped_of_RefB (by kernel_rfl) (by kernel_rfl)) (by kernel_rfl) (by kernel_rfl) (by kernel_rfl) (Hw os _)) ?_
 intro W base args ds gs before hval hW _ hsz _ _
 have hW':=hW
 obtain ⟨p,q,hA,hV,rfl,_,_⟩:=hW'
 obtain ⟨rfl,rfl⟩:=trodVars_none hV
 have hw :∀ m∈DataW.weightsEach Tryz.prog Tryz.f10.params.toList ds,m≤aP:=fun m hm=>by
  have e:DataW.weightsEach Tryz.checked.prog (Tryz.f10.params.toList++Rows.linearFindsSpec.plain.varTypes Tryz.checked.prog) (ds++[])=DataW.weightsEach Tryz.prog Tryz.f10.params.toList ds:=by
   rw [List.append_nil];kernel_rfl
  rw [e] at hsz
  have h1:=List.all_eq_true.1 hsz m hm
  have h2:m≤reachBytes:=by simpa using h1
  exact Nat.le_trans h2 (of_decide_eq_true (by kernel_rfl))
 have hlen:ds.length=3:=by
  obtain ⟨_,_,_,_,_,h⟩:=pd (ps:=(.prod (.nm .Rules) (.prod (.slice (.nm .Event)) (.prod (.int .u16) .unit)))) hA (by kernel_rfl) (fun j t v h1 h2=>⟨_,_,hval j t v (Array.getElem?_toList.symm.trans h1) (Array.getElem?_toList.symm.trans h2)⟩) hw
  exact h
 refine (Cs CT (fn:=Tryz.f10) (ps:=(.prod (.nm .Rules) (.prod (.slice (.nm .Event)) (.prod (.int .u16) .unit)))) (by kernel_rfl) (fun p hp=>by cases hp) (by rintro ⟨r,l,k,⟨⟩⟩ hw;exact ⟨[],by kernel_rfl,fun p hp=>by cases hp⟩) hA (fun j t v h1 h2=>⟨_,_,hval j t v h1 h2⟩) hw).mono fun e W' hr=>?_
 obtain ⟨rfl,hk⟩:=hr
 refine ⟨_,rfl,Im MN (TB:=4) (by kernel_rfl) Tryz.underlying4 ?_ rfl hW ?_ hk⟩
 ·have h :(Tryz.f10.params.toList.all fun t=>Tryz.prog.readableRec t&&decide (t<Tryz.prog.types.size))=true:=by kernel_rfl
  intro t ht
  have:=List.all_eq_true.1 h t ht
  simpa using this
 ·obtain ⟨a,b,c,rfl⟩:=Pn hlen
  exact ⟨rfl,rfl,rfl⟩
theorem j1:laidOutB Tryz.prog=true:=MN
theorem j2:mapsRowed Tryz.prog=true:=by kernel_rfl
theorem j3 :(Rows.linearFindsRow.inPlace==Tryz.prog.inPlace 10)=true:=by kernel_rfl
theorem j4 :(Rows.linearFindsRow.unfollowed==Tryz.prog.unfollowed 10)=true:=by kernel_rfl
theorem j5 :(Rows.linearFindsRow.recurses==Tryz.prog.recurses 10)=true:=by kernel_rfl
theorem j6 :(Rows.linearFindsRow.named==Tryz.prog.varsNamed 10)=true:=by kernel_rfl
theorem j7:Tryz.prog.stopsHeard=true:=by kernel_rfl
theorem j8:Tryz.prog.mayEnter=true:=by kernel_rfl
theorem j9 :(Rows.linearFindsRow.lifted==Tryz.prog.liftsFinal)=true:=by kernel_rfl
theorem j10 :(Tryz.prog.make==some Rows.linearFindsRow.make)=true:=by kernel_rfl
theorem Qq:joinedFacts Tryz.prog 10 Tryz.f10 Rows.linearFindsSpec Rows.linearFindsRow=true:=by
 unfold joinedFacts
 simp only [Bool.and_eq_true]
 repeat' apply And.intro
 all_goals first|with_reducible exact j1|with_reducible exact j2|with_reducible exact j3|with_reducible exact j4|with_reducible exact j5|with_reducible exact j6|with_reducible exact j7|with_reducible exact j8|with_reducible exact j9|with_reducible exact j10|kernel_rfl
theorem jName:Tryz.prog.funcNamed "scorebook/scorebooklaw20.LinearFinds" = some 10:=by kernel_rfl
theorem Pl:Tryz.f10.isWrapper Tryz.prog Rows.linearFindsRow.wrapper Rows.linearFindsRow.mainSum:=by unfold Func.isWrapper;rw [if_neg (by decide +kernel)];exact ⟨rfl,rfl⟩
theorem qy:Rows.LinearFindsSaid:=
 OpenClaim.holds_of_wide 10 Tryz.f10 rfl rfl rfl rfl rfl rfl rfl ⟨rfl,rfl,rfl,rfl,rfl⟩ rfl rfl rfl rfl rfl jName Tryz.func10 Qq
  (of_decide_eq_true (by kernel_rfl)) Pl
  (fun os started H enc _=>nO os started H enc)
theorem c1:Rows.linearFindsRow.wfByText (OpenSpec.ofChange Rows.linearFindsSpec)=true:=by kernel_rfl
theorem c2:Tryz.prog.mainIs=some (true,"0153d2e654d693be89b32985ff651f7138f7a72c3099e321b7fb61be8b664498".toList):=by kernel_rfl
theorem c3:true=Tryz.prog.looks []:=by kernel_rfl
theorem c4 :(Tryz.f10.params.toList.all fun u=>!Tryz.prog.wantsStandIn u)=true:=by kernel_rfl
theorem c5:false=Rows.linearFindsRow.goesBy Tryz.prog:=by kernel_rfl
theorem linearFinds_holds:Rows.LinearFindsCardSaid:=
 Claim7.holds_tied_plain_at .later [] [.data,.data,.data] true (true,"0153d2e654d693be89b32985ff651f7138f7a72c3099e321b7fb61be8b664498") true
  qy (fun _ h=>by cases h) c1 (fun _ h=>by cases h) linearFinds_row_tie rfl ⟨rfl,rfl⟩ c2 rfl
  (fun f fn hf hfn=>by
   obtain rfl:f=10:=Option.some.inj (jName.symm.trans hf) |>.symm
   obtain rfl:fn=Tryz.f10:=(Option.some.inj (Tryz.func10.symm.trans hfn)).symm
   exact ⟨c3,fun j t ht=>by
    have hm:t∈Tryz.f10.params.toList:=Array.mem_toList_iff.2 (Array.mem_of_getElem? ht)
    exact (show Tryz.prog.wantsStandIn t=false by simpa using List.all_eq_true.1 c4 t hm)⟩)
  c5
#print axioms linearFinds_holds
end Go.Proofs.YtffdpnmioidloaaGreatDoor
