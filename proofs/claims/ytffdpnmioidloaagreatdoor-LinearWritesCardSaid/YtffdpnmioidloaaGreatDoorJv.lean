/- LinearWrites: the rows of a log are the specified ones. The card: the tables of the library that the row lists are tied to the text of the program. Condition: none beyond the own one of the row (listed variables hold what the text of the program lays). -/
import Derived.Test.YtffdpnmioidloaaGreatDoorPW8
import Derived.Test.YtffdpnmioidloaaGreatDoorCards
import Derived.SizedLaws
import Derived.LaidMore
import Derived.SevenTiedAt
import Derived.OpenShut
import Derived.ProofKit
namespace Go.Proofs.YtffdpnmioidloaaGreatDoor
open Go Go.Mir Go.ChangeShapes Go.WideShapes Go.ChangeAt Go.RowKit
attribute [local irreducible] Go.Mir.RT.sat Go.Mir.evFn Go.Mir.stepObl
theorem QV:laidOutB Tryz.prog=true:=by kernel_rfl
theorem Uq {α:Type} {ds:List α} (h:ds.length=2) :∃ a b,ds=[a,b]:=by
 match ds,h with
 | [a,b],_=>exact ⟨a,b,rfl⟩
set_option maxRecDepth 100000 in
theorem py (os:Os) (started:os.Started) (H:Type) (enc:TypeId×Value→H) :
  ReturnsInHanded {} Tryz.checked os 8 .any (fun w args=>(Rows.linearWritesSpec.pre enc Tryz.prog Tryz.f8 [] false w args∧laidMetH Tryz.prog Jg w)∧sizedMet enc Tryz.prog Tryz.f8 (OpenSpec.ofChange Rows.linearWritesSpec) false w args)
   (Rows.linearWritesSpec.post enc Tryz.prog Tryz.f8 false true false false):=by
 refine returnsInHanded_of_change_and (C:=Tryz.checked) (X:=fun w _=>laidMetH Tryz.prog Jg w) (fun _ _ _ hh h=>h.of_heap hh) V0 started (by kernel_rfl) Tryz.func8
  (ChangeSpec.witness_shaped (enc:=enc) (C:=Tryz.checked) (os:=os) (X:=fun w _=>laidMetH Tryz.prog Jg w) false (World.doorLaid Tryz.prog 72 os) #[.agg #[.string { data:=#[] },.int .i64 0,.int .i64 0,.int .i64 0,.int .i64 0,.int .i64 0,.int .i64 0,.int .i64 0,.bool false,.int .i64 0,.int .i64 0,.int .i64 0,.int .i64 0,.slice none 0 0],.slice none 0 0] 8 rfl (World.shaped_of_RefB (by kernel_rfl) (by kernel_rfl)) (by kernel_rfl) (by kernel_rfl) (by kernel_rfl) (LV os _)) ?_
 intro W base args ds gs before hval hW _ hsz _ _
 have hW':=hW
 obtain ⟨p,q,hA,hV,rfl,_,_⟩:=hW'
 obtain ⟨rfl,rfl⟩:=trodVars_none hV
 have hw :∀ m∈DataW.weightsEach Tryz.prog Tryz.f8.params.toList ds,m≤aJ:=fun m hm=>by
  have e:DataW.weightsEach Tryz.checked.prog (Tryz.f8.params.toList++Rows.linearWritesSpec.plain.varTypes Tryz.checked.prog) (ds++[])=DataW.weightsEach Tryz.prog Tryz.f8.params.toList ds:=by
   rw [List.append_nil];kernel_rfl
  rw [e] at hsz
  have h1:=List.all_eq_true.1 hsz m hm
  have h2:m≤reachBytes:=by simpa using h1
  exact Nat.le_trans h2 (of_decide_eq_true (by kernel_rfl))
 have hlen:ds.length=2:=by
  obtain ⟨_,_,_,_,_,h⟩:=rU (ps:=(.prod (.nm .Rules) (.prod (.slice (.nm .Event)) .unit))) hA (by kernel_rfl) (fun j t v h1 h2=>⟨_,_,hval j t v (Array.getElem?_toList.symm.trans h1) (Array.getElem?_toList.symm.trans h2)⟩) hw
  exact h
 refine (Gl EA (fn:=Tryz.f8) (ps:=(.prod (.nm .Rules) (.prod (.slice (.nm .Event)) .unit))) (by kernel_rfl) (fun p hp=>by cases hp) (by rintro ⟨r,l,⟨⟩⟩ hw;exact ⟨[],by kernel_rfl,fun p hp=>by cases hp⟩) hA (fun j t v h1 h2=>⟨_,_,hval j t v h1 h2⟩) hw).mono fun e W' hr=>?_
 obtain ⟨rfl,hk⟩:=hr
 refine ⟨_,rfl,MB QV (TB:=4) (by kernel_rfl) Tryz.underlying4 ?_ rfl hW ?_ hk⟩
 ·have h :(Tryz.f8.params.toList.all fun t=>Tryz.prog.readableRec t&&decide (t<Tryz.prog.types.size))=true:=by kernel_rfl
  intro t ht
  have:=List.all_eq_true.1 h t ht
  simpa using this
 ·obtain ⟨a,b,rfl⟩:=Uq hlen
  exact ⟨rfl,rfl,rfl⟩
theorem j1:laidOutB Tryz.prog=true:=QV
theorem j2:mapsRowed Tryz.prog=true:=by kernel_rfl
theorem j3 :(Rows.linearWritesRow.inPlace==Tryz.prog.inPlace 8)=true:=by kernel_rfl
theorem j4 :(Rows.linearWritesRow.unfollowed==Tryz.prog.unfollowed 8)=true:=by kernel_rfl
theorem j5 :(Rows.linearWritesRow.recurses==Tryz.prog.recurses 8)=true:=by kernel_rfl
theorem j6 :(Rows.linearWritesRow.named==Tryz.prog.varsNamed 8)=true:=by kernel_rfl
theorem j7:Tryz.prog.stopsHeard=true:=by kernel_rfl
theorem j8:Tryz.prog.mayEnter=true:=by kernel_rfl
theorem j9 :(Rows.linearWritesRow.lifted==Tryz.prog.liftsFinal)=true:=by kernel_rfl
theorem j10 :(Tryz.prog.make==some Rows.linearWritesRow.make)=true:=by kernel_rfl
theorem VE:joinedFacts Tryz.prog 8 Tryz.f8 Rows.linearWritesSpec Rows.linearWritesRow=true:=by
 unfold joinedFacts
 simp only [Bool.and_eq_true]
 repeat' apply And.intro
 all_goals first|with_reducible exact j1|with_reducible exact j2|with_reducible exact j3|with_reducible exact j4|with_reducible exact j5|with_reducible exact j6|with_reducible exact j7|with_reducible exact j8|with_reducible exact j9|with_reducible exact j10|kernel_rfl
theorem jName:Tryz.prog.funcNamed "scorebook/scorebooklaw20.LinearWrites" = some 8:=by kernel_rfl
theorem Un:Tryz.f8.isWrapper Tryz.prog Rows.linearWritesRow.wrapper Rows.linearWritesRow.mainSum:=by unfold Func.isWrapper;rw [if_neg (by decide +kernel)];exact ⟨rfl,rfl⟩
theorem sr:Rows.LinearWritesSaid:=
 OpenClaim.holds_of_wide 8 Tryz.f8 rfl rfl rfl rfl rfl rfl rfl ⟨rfl,rfl,rfl,rfl,rfl⟩ rfl rfl rfl rfl rfl jName Tryz.func8 VE
  (of_decide_eq_true (by kernel_rfl)) Un
  (fun os started H enc _=>py os started H enc)
theorem c1:Rows.linearWritesRow.wfByText (OpenSpec.ofChange Rows.linearWritesSpec)=true:=by kernel_rfl
theorem c2:Tryz.prog.mainIs=some (true,"0153d2e654d693be89b32985ff651f7138f7a72c3099e321b7fb61be8b664498".toList):=by kernel_rfl
theorem c3:true=Tryz.prog.looks []:=by kernel_rfl
theorem c4 :(Tryz.f8.params.toList.all fun u=>!Tryz.prog.wantsStandIn u)=true:=by kernel_rfl
theorem c5:false=Rows.linearWritesRow.goesBy Tryz.prog:=by kernel_rfl
theorem linearWrites_holds:Rows.LinearWritesCardSaid:=
 Claim7.holds_tied_plain_at .later [] [.data,.data,.data] true (true,"0153d2e654d693be89b32985ff651f7138f7a72c3099e321b7fb61be8b664498") true
  sr (fun _ h=>by cases h) c1 (fun _ h=>by cases h) linearWrites_row_tie rfl ⟨rfl,rfl⟩ c2 rfl
  (fun f fn hf hfn=>by
   obtain rfl:f=8:=Option.some.inj (jName.symm.trans hf) |>.symm
   obtain rfl:fn=Tryz.f8:=(Option.some.inj (Tryz.func8.symm.trans hfn)).symm
   exact ⟨c3,fun j t ht=>by
    have hm:t∈Tryz.f8.params.toList:=Array.mem_toList_iff.2 (Array.mem_of_getElem? ht)
    exact (show Tryz.prog.wantsStandIn t=false by simpa using List.all_eq_true.1 c4 t hm)⟩)
  c5
#print axioms linearWrites_holds
end Go.Proofs.YtffdpnmioidloaaGreatDoor
