/- LinearParses: for every text, cut at 500 bytes, the law returns true: Parse gives what the reference gives, and a text that is read is the text of its rows. The card: the tables and errors of the library that the row lists are tied to the text of the program. No condition beyond the row. -/
import Derived.Test.YtffdpnmioidloaaGreatDoorPV8
import Derived.Test.YtffdpnmioidloaaGreatDoorCards
import Derived.SizedLaws
import Derived.LaidMore
import Derived.SevenTiedAt
import Derived.OpenShut
import Derived.ProofKit
namespace Go.Proofs.YtffdpnmioidloaaGreatDoor
open Go Go.Mir Go.ChangeShapes Go.WideShapes Go.ChangeAt Go.RowKit
attribute [local irreducible] Go.Mir.RT.sat Go.Mir.evFn Go.Mir.stepObl
theorem Nb:laidOutB Tryz.prog=true:=by kernel_rfl
theorem Rm {α:Type} {ds:List α} (h:ds.length=1) :∃ a,ds=[a]:=by
 match ds,h with
 | [a],_=>exact ⟨a,rfl⟩
set_option maxRecDepth 100000 in
theorem mn (os:Os) (started:os.Started) (H:Type) (enc:TypeId×Value→H) :
  ReturnsInHanded {} Tryz.checked os 6 .any (fun w args=>(Rows.linearParsesSpec.pre enc Tryz.prog Tryz.f6 [] false w args∧laidMetH Tryz.prog kG w)∧sizedMet enc Tryz.prog Tryz.f6 (OpenSpec.ofChange Rows.linearParsesSpec) false w args)
   (Rows.linearParsesSpec.post enc Tryz.prog Tryz.f6 false true false false):=by
 refine nz (C:=Tryz.checked) (X:=fun w _=>laidMetH Tryz.prog kG w) (fun _ _ _ hh h=>h.of_heap hh) Sz started (by kernel_rfl) Tryz.func6
  (ChangeSpec.witness_shaped (enc:=enc) (C:=Tryz.checked) (os:=os) (X:=fun w _=>laidMetH Tryz.prog kG w) false (World.laidAll Tryz.prog os kG) #[.string { data:=#[] }] 8 (World.laidAll_os _ _ _) (World.shaped_of_ZipB (by kernel_rfl) (by kernel_rfl)) (by kernel_rfl) (by kernel_rfl) (by kernel_rfl) (FD os _)) ?_
 intro W base args ds gs before hval hW _ hsz hX hsh _
 have hW':=hW
 obtain ⟨p,q,hA,hV,rfl,_,_⟩:=hW'
 obtain ⟨rfl,rfl⟩:=trodVars_none hV
 have hw :∀ m∈DataW.weightsEach Tryz.prog Tryz.f6.params.toList ds,m≤ai:=fun m hm=>by
  have e:DataW.weightsEach Tryz.checked.prog (Tryz.f6.params.toList++Rows.linearParsesSpec.plain.varTypes Tryz.checked.prog) (ds++[])=DataW.weightsEach Tryz.prog Tryz.f6.params.toList ds:=by
   rw [List.append_nil];kernel_rfl
  rw [e] at hsz
  have h1:=List.all_eq_true.1 hsz m hm
  have h2:m≤reachBytes:=by simpa using h1
  exact Nat.le_trans h2 (of_decide_eq_true (by kernel_rfl))
 have hlen:ds.length=1:=by
  obtain ⟨_,_,_,_,_,h⟩:=ov (ps:=(.prod .str .unit)) hA (by kernel_rfl) (fun j t v h1 h2=>⟨_,_,hval j t v (Array.getElem?_toList.symm.trans h1) (Array.getElem?_toList.symm.trans h2)⟩) hw
  exact h
 refine (Cy AD (fn:=Tryz.f6) (ps:=(.prod .str .unit)) (by kernel_rfl) (Lo hX hsh) (by rintro ⟨s,⟨⟩⟩ hw;exact ⟨[],by kernel_rfl,fun p hp=>by cases hp⟩) hA (fun j t v h1 h2=>⟨_,_,hval j t v h1 h2⟩) hw).mono fun e W' hr=>?_
 obtain ⟨rfl,hk⟩:=hr
 refine ⟨_,rfl,IH Nb (TB:=4) (by kernel_rfl) Tryz.underlying4 ?_ rfl hW ?_ hk⟩
 ·have h :(Tryz.f6.params.toList.all fun t=>Tryz.prog.readableRec t&&decide (t<Tryz.prog.types.size))=true:=by kernel_rfl
  intro t ht
  have:=List.all_eq_true.1 h t ht
  simpa using this
 ·obtain ⟨a,rfl⟩:=Rm hlen
  exact ⟨rfl,rfl,rfl⟩
theorem j1:laidOutB Tryz.prog=true:=Nb
theorem j2:mapsRowed Tryz.prog=true:=by kernel_rfl
theorem j3 :(Rows.linearParsesRow.inPlace==Tryz.prog.inPlace 6)=true:=by kernel_rfl
theorem j4 :(Rows.linearParsesRow.unfollowed==Tryz.prog.unfollowed 6)=true:=by kernel_rfl
theorem j5 :(Rows.linearParsesRow.recurses==Tryz.prog.recurses 6)=true:=by kernel_rfl
theorem j6 :(Rows.linearParsesRow.named==Tryz.prog.varsNamed 6)=true:=by kernel_rfl
theorem j7:Tryz.prog.stopsHeard=true:=by kernel_rfl
theorem j8:Tryz.prog.mayEnter=true:=by kernel_rfl
theorem j9 :(Rows.linearParsesRow.lifted==Tryz.prog.liftsFinal)=true:=by kernel_rfl
theorem j10 :(Tryz.prog.make==some Rows.linearParsesRow.make)=true:=by kernel_rfl
theorem Sr:joinedFacts Tryz.prog 6 Tryz.f6 Rows.linearParsesSpec Rows.linearParsesRow=true:=by
 unfold joinedFacts
 simp only [Bool.and_eq_true]
 repeat' apply And.intro
 all_goals first|with_reducible exact j1|with_reducible exact j2|with_reducible exact j3|with_reducible exact j4|with_reducible exact j5|with_reducible exact j6|with_reducible exact j7|with_reducible exact j8|with_reducible exact j9|with_reducible exact j10|kernel_rfl
theorem jName:Tryz.prog.funcNamed "scorebook/scorebooklaw20.LinearParses" = some 6:=by kernel_rfl
theorem Rk:Tryz.f6.isWrapper Tryz.prog Rows.linearParsesRow.wrapper Rows.linearParsesRow.mainSum:=by unfold Func.isWrapper;rw [if_neg (by decide +kernel)];exact ⟨rfl,rfl⟩
theorem oY:Rows.LinearParsesSaid:=
 OpenClaim.holds_of_wide 6 Tryz.f6 rfl rfl rfl rfl rfl rfl rfl ⟨rfl,rfl,rfl,rfl,rfl⟩ rfl rfl rfl rfl rfl jName Tryz.func6 Sr
  (of_decide_eq_true (by kernel_rfl)) Rk
  (fun os started H enc _=>mn os started H enc)
theorem c1:Rows.linearParsesRow.wfByText (OpenSpec.ofChange Rows.linearParsesSpec)=true:=by kernel_rfl
theorem c2:Tryz.prog.mainIs=some (true,"0153d2e654d693be89b32985ff651f7138f7a72c3099e321b7fb61be8b664498".toList):=by kernel_rfl
theorem c3:true=Tryz.prog.looks []:=by kernel_rfl
theorem c4 :(Tryz.f6.params.toList.all fun u=>!Tryz.prog.wantsStandIn u)=true:=by kernel_rfl
theorem c5:false=Rows.linearParsesRow.goesBy Tryz.prog:=by kernel_rfl
theorem linearParses_holds:Rows.LinearParsesCardSaid:=
 Claim7.holds_tied_plain_at .later [] [.data,.data,.data,.data,.sentinel,.sentinel,.pinned] true (true,"0153d2e654d693be89b32985ff651f7138f7a72c3099e321b7fb61be8b664498") true
  oY (fun _ h=>by cases h) c1 (fun _ h=>by cases h) linearParses_row_tie rfl ⟨rfl,rfl⟩ c2 rfl
  (fun f fn hf hfn=>by
   obtain rfl:f=6:=Option.some.inj (jName.symm.trans hf) |>.symm
   obtain rfl:fn=Tryz.f6:=(Option.some.inj (Tryz.func6.symm.trans hfn)).symm
   exact ⟨c3,fun j t ht=>by
    have hm:t∈Tryz.f6.params.toList:=Array.mem_toList_iff.2 (Array.mem_of_getElem? ht)
    exact (show Tryz.prog.wantsStandIn t=false by simpa using List.all_eq_true.1 c4 t hm)⟩)
  c5
#print axioms linearParses_holds
end Go.Proofs.YtffdpnmioidloaaGreatDoor
